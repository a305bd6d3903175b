/- Part of this proof. -/
import Derived.Test.YtadnmegdbllaoaaGreatDoorK920
set_option maxRecDepth 100000
set_option maxHeartbeats 8000000
open And renaming intro->ahr
open Classical renaming byContradiction->adr
open Go.Calls renaming mono->aac
open Go.IntWalk renaming i64_in->acK
open Go.RowKit.Below renaming refl->aai
open Go.World renaming size_alloc->aad,size_setCell->akW
open Go.World.ownsRow renaming lt->ada
open List renaming append_assoc->ac8,append_nil->agX,append_of_mem->ado,countP_cons_of_neg->ajL,countP_cons_of_pos->ahg,flatten_cons->agO,getElem?_eq_getElem->acU,getElem_append_right->ahv,length->ak8,length_append->aag,length_cons->acH,length_eq_zero_iff->adu,length_nil->adh,map_append->adt,mem_append->aaf,mem_append_left->acM,mem_cons->aah,mem_cons_of_mem->acF,mem_cons_self->aae,mem_filter->adx,mem_flatten->ac2,mem_singleton->acI,nodup_append->acG,nodup_cons->acZ,not_mem_nil->aaj,pairwise_cons->agz,perm_middle->agE
open List.Perm renaming swap->ahq
open Nat renaming le_trans->acN,zero_le->ac4
open Ne renaming symm->ahc
namespace Go.Proofs.YtadnmegdbllaoaaGreatDoor
open Go.RowKit Go.Shelf Sq Tryz
section
variable {F:Nat->Prop}{B u0 q m:Nat}{T:List bT->Nat->World->Prop}{S:St}{w w':World}
theorem aru:EI prog 71 (.agg #[.int .i64 0, .int .i64 0]) 2 16:=EI.mk aV
def OB(v:Value)(n:Nat)(v':Value):Prop:=∀k,v'.ownBlock=some k->v.ownBlock=some k\/n<=k
theorem arv{v v':Value}{n n':Nat}(h:v'.ownBlock=v.ownBlock\/∃g,v'.ownBlock=some g/\n'<=g)(hn:n<=n'):OB v n v':=λk hk=>by
 rcases h with h | ⟨g,h,hg⟩
 ·exact .inl (by rw[<-h];exact hk)
 ·rw[h]at hk;injection hk with hk;subst hk;exact .inr (acN hn hg)
theorem OB.afK{v v' v2:Value}{n:Nat}(h:OB v n v')(h2:OB v' n v2):OB v n v2:=λk hk=>(h2 k hk).elim (h k) .inr
theorem OB.more{v v':Value}{n n':Nat}(h:OB v n v')(hn:n'<=n):OB v n' v':=λk hk=>(h k hk).imp id λa=>acN hn a
def BlE(F:Nat->Prop)(B u0 q:Nat)(T:List bT->Nat->World->Prop)(S:St)(m:Nat)(base:Nat)(v:Value)(l:List Tok)(w:World)(e:Ending)(w':World):Prop:=
 ∃v',e= .returned v'/\aZ B u0 q T S m w'/\LO tokE 71 w' base v' l/\Fr (λk=>F k\/v.ownBlock=some k) w w'/\OB v w.heap.size v'
structure Wy(F:Nat->Prop)(B u0 q:Nat)(T:List bT->Nat->World->Prop)(S:St)(m:Nat)(w6:World)(base:Nat)(v:Value)(ls YM:List Tok)(k:Tok)(vals:Nat->Value)(u:Nat->Value)(L:Array Bool)(W:World):Prop where
 p:∀i,i<8->i≠6->L.getD i false=true->u i=vals i
 l:L.getD 10 false=false->u 10=v
 fr:Fr (λx=>F x\/v.ownBlock=some x) w6 W
 st:aZ B u0 q T S m W
 r0:L.getD 6 false=false->LO tokE 71 W base v ls
 r1:L.getD 6 false=true->L.getD 9 false=false->LO tokE 71 W base (u 6) YM/\OB v w6.heap.size (u 6)
 b8:L.getD 8 false=true->L.getD 9 false=false->∃b,w6.heap.size<=b/\u 8= .slice (some ⟨b,0,none⟩) 1 1/\aO W b 71 (aI k)/\(L.getD 6 false=true->(u 6).ownBlock≠some b)
 c9:L.getD 9 false=true->L.getD 6 false=true
 r2:L.getD 9 false=true->LO tokE 71 W base (u 9) (YM++ [k])/\OB v w6.heap.size (u 9)
 e10:L.getD 10 false=true->u 10=u 9
 c10:L.getD 10 false=true->L.getD 9 false=true
 c6:L.getD 6 false=true->L.getD 1 false=true
section
variable {w6 W W':World}{base:Nat}{v:Value}{ls YM:List Tok}{k:Tok}{vals u:Nat->Value}{L:Array Bool}
theorem am0{i j:Nat}(h:(L.setIfInBounds i true).getD j false=true)(_hi:i<L.size):j=i\/(j≠i/\L.getD j false=true):=by
 by_cases e:j=i
 ·exact .inl e
 ·rw[gu (ahc e)]at h;exact .inr ⟨e,h⟩
theorem Wy.Py(h:Wy F B u0 q T S m w6 base v ls YM k vals u L W){i:Nat}(_hi:i<8)(h6:i≠6)(hL:i<L.size):Wy F B u0 q T S m w6 base v ls YM k vals (λj=>if j=i then vals i else u j) (L.setIfInBounds i true) W:=by
 have e:∀j,j≠i->(L.setIfInBounds i true).getD j false=L.getD j false:=λj hj=>gu (ahc hj);have n:∀j,j=6\/8<=j->j≠i:=λj hj=>by omega
 refine⟨λj hj hj6 hd=> ?_, ?_,h.fr,h.st, ?_, ?_, ?_, ?_, ?_, ?_, ?_, ?_⟩
 ·rcases am0 hd hL with rfl | ⟨h1,h2⟩
  ·simp only[if_true]
  ·simp only[if_neg h1];exact h.p j hj hj6 h2
 ·rw[e 10 (n 10 ak),if_neg (n 10 ak)];exact h.l
 ·rw[e 6 (n 6 ak)];exact h.r0
 ·rw[e 6 (n 6 ak),e 9 (n 9 ak),if_neg (n 6 ak)];exact h.r1
 ·rw[e 8 (n 8 ak),e 9 (n 9 ak),e 6 (n 6 ak),if_neg (n 8 ak),if_neg (n 6 ak)];exact h.b8
 ·rw[e 9 (n 9 ak),e 6 (n 6 ak)];exact h.c9
 ·rw[e 9 (n 9 ak),if_neg (n 9 ak)];exact h.r2
 ·rw[e 10 (n 10 ak),if_neg (n 10 ak),if_neg (n 9 ak)];exact h.e10
 ·rw[e 10 (n 10 ak),e 9 (n 9 ak)];exact h.c10
 ·rw[e 6 (n 6 ak)];intro a;by_cases e1:1=i
  ·subst e1;exact kU hL
  ·rw[e 1 e1];exact h.c6 a
theorem Wy.call_(h:Wy F B u0 q T S m w6 base v ls YM k vals u L W)(h6:L.getD 6 false=false)(h1:L.getD 1 false=true)(hL:6<L.size){v':Value}(hs:aZ B u0 q T S m W')(hr:LO tokE 71 W' base v' YM)(hf:Fr (λx=>F x\/v.ownBlock=some x) W W')(ho:OB v W.heap.size v')(hG:∀x,(F x\/v.ownBlock=some x)->x<w6.heap.size):Wy F B u0 q T S m w6 base v ls YM k vals (λj=>if j=6 then v' else u j) (L.setIfInBounds 6 true) W':=by
 have e:∀j,j≠6->(L.setIfInBounds 6 true).getD j false=L.getD j false:=λj hj=>gu (ahc hj);have e6:(L.setIfInBounds 6 true).getD 6 false=true:=kU hL
 have h9:L.getD 9 false=false:=by
  cases hh:L.getD 9 false with
  |false=>rfl
  |true=>have:=h.c9 hh;rw[h6]at this;cases this
 have h10:∀j,j≠6->(if j=6 then v' else u j)=u j:=λj hj=>if_neg hj;have Ac:=h.fr.size;refine⟨λj hj hj6 hd=> ?_, ?_,h.fr.trans hf,hs, ?_, ?_, ?_, ?_, ?_, ?_, ?_,λ_=>by rw[e 1 ak];exact h1⟩
 ·rw[e j hj6]at hd;simp only[if_neg hj6];exact h.p j hj hj6 hd
 ·rw[e 10 ak];exact h.l
 ·rw[e6];exact λa=>by cases a
 ·exact λ_ _=>⟨hr,ho.more Ac⟩
 ·rw[e 8 ak,e 9 ak];intro a _;obtain⟨b,b1,b2,b3,_⟩:=h.b8 a h9;refine⟨b,b1,b2,hf.blk b3 (λx=>by have:=hG b x;omega),λ_ RD=> ?_⟩;have awC:v'.ownBlock=some b:=RD;rcases ho b awC with h1 | h1
  ·have:=hG b (.inr h1);omega
  ·have:=b3.lt;omega
 ·exact λ_=>e6
 ·rw[e 9 ak,h9];exact λa=>by cases a
 ·rw[e 10 ak];exact h.e10
 ·rw[e 10 ak,e 9 ak];exact h.c10
theorem Wy.am1(K:Kv F B u0 T)(h:Wy F B u0 q T S m w6 base v ls YM k vals u L W):Wy F B u0 q T S m w6 base v ls YM k vals (λj=>if j=8 then .slice (some ⟨W.heap.size,0,none⟩) 1 1 else u j) (L.setIfInBounds 8 true) (W.alloc (.cells (aI k) 71)):=by
 have e:∀j,j≠8->(L.setIfInBounds 8 true).getD j false=L.getD j false:=λj hj=>gu (ahc hj);have hb:=(aai W.heap.size W).alloc aK (.cells (aI k) 71);refine⟨λj hj hj6 hd=> ?_, ?_,h.fr.then_ hb,h.st.below K hb, ?_, ?_, ?_, ?_, ?_, ?_, ?_,by rw[e 6 ak,e 1 ak];exact h.c6⟩
 ·have hj8:j≠8:=by omega
  rw[e j hj8]at hd;simp only[if_neg hj8];exact h.p j hj hj6 hd
 ·rw[e 10 ak];exact h.l
 ·rw[e 6 ak];exact λa=>(h.r0 a).below hb
 ·rw[e 6 ak,e 9 ak];exact λa b=>⟨(h.r1 a b).1.below hb,(h.r1 a b).2⟩
 ·rw[e 9 ak,e 6 ak];intro _ h9;refine⟨W.heap.size,h.fr.size,rfl,aO.new _ _ _,λh6 RD=> ?_⟩;have:=(ada (h.r1 h6 h9).1 _ RD).2;omega
 ·rw[e 9 ak,e 6 ak];exact h.c9
 ·rw[e 9 ak];exact λa=>⟨(h.r2 a).1.below hb,(h.r2 a).2⟩
 ·rw[e 10 ak];exact h.e10
 ·rw[e 10 ak,e 9 ak];exact h.c10
theorem Wy.awD(K:Kv F B u0 T)(h:Wy F B u0 q T S m w6 base v ls YM k vals u L W)(h6:L.getD 6 false=true)(h9:L.getD 9 false=false)(hL:9<L.size)(ZT:q<base){v':Value}(hr:LO tokE 71 W' base v' (YM++ [k]))(hg:W.grownBy W' (u 6).ownBlock)(ho:v'.ownBlock=(u 6).ownBlock\/∃g,v'.ownBlock=some g/\W.heap.size<=g):Wy F B u0 q T S m w6 base v ls YM k vals (λj=>if j=9 then v' else u j) (L.setIfInBounds 9 true) W':=by
 have e:∀j,j≠9->(L.setIfInBounds 9 true).getD j false=L.getD j false:=λj hj=>gu (ahc hj);have e9:(L.setIfInBounds 9 true).getD 9 false=true:=kU hL;obtain⟨g1,g2⟩:=h.r1 h6 h9;have hn:∀ {P:Prop},(L.setIfInBounds 9 true).getD 9 false=false->P:=λa=>by rw[e9]at a;cases a
 refine⟨λj hj hj6 hd=> ?_, ?_,h.fr.newP (Fr.iO hg) (λx hx=>(g2 x hx).imp .inr id),h.st.row K g1 ZT hg, ?_,λ_ a=>hn a,λ_ a=>hn a, ?_,λ_=>⟨hr,g2.afK (arv ho h.fr.size)⟩, ?_,λ_=>e9,by rw[e 6 ak,e 1 ak];exact h.c6⟩
 ·have hj9:j≠9:=by omega
  rw[e j hj9]at hd;simp only[if_neg hj9];exact h.p j hj hj6 hd
 ·rw[e 10 ak];exact h.l
 ·rw[e 6 ak,h6];exact λa=>by cases a
 ·rw[e 6 ak];exact λ_=>h6
 ·rw[e 10 ak];intro a;have:=h.c10 a;rw[h9]at this;cases this
theorem Wy.al9(h:Wy F B u0 q T S m w6 base v ls YM k vals u L W)(h9:L.getD 9 false=true)(hL:10<L.size):Wy F B u0 q T S m w6 base v ls YM k vals (λj=>if j=10 then u 9 else u j) (L.setIfInBounds 10 true) W:=by
 have e:∀j,j≠10->(L.setIfInBounds 10 true).getD j false=L.getD j false:=λj hj=>gu (ahc hj);have e10:(L.setIfInBounds 10 true).getD 10 false=true:=kU hL;refine⟨λj hj hj6 hd=> ?_,(λa=>by rw[e10]at a;cases a),h.fr,h.st, ?_, ?_, ?_, ?_, ?_,λ_=>rfl, ?_,by rw[e 6 ak,e 1 ak];exact h.c6⟩
 ·have hj9:j≠10:=by omega
  rw[e j hj9]at hd;simp only[if_neg hj9];exact h.p j hj hj6 hd
 ·rw[e 6 ak];exact h.r0
 ·rw[e 6 ak,e 9 ak];exact h.r1
 ·rw[e 8 ak,e 9 ak,e 6 ak];exact h.b8
 ·rw[e 9 ak,e 6 ak];exact h.c9
 ·rw[e 9 ak];exact h.r2
 ·rw[e 9 ak];exact λ_=>h9
end
theorem acf:∀args w,(callFunc 82 args).run prog w= .ok (.enter 82 args) w:=λargs w=>by kernel_rfl
def blV(q g d:Nat)(v:Value)(lt k:Tok):Nat->Value
 |0=> .pointer (some ⟨q,0,none⟩)
 |1=>v
 |2=> .pointer (some ⟨g,2,none⟩)
 |3=>aG lt
 |4=> .int .i64 (d:Nat)
 |5=> .int .i64 ((d+1:Nat):Int)
 |7=>aG k
 |_=>undef
theorem F9(K:Kv F B u0 T):∀ (t:Bt) (up:Tok) (d:Nat) (v:Value) (base:Nat) (ls:List Tok) (w:World),eY S up t->d+t.cnt<=250->q<base->base<=w.heap.size->aZ B u0 q T S m w->LO tokE 71 w base v ls->ls.length+t.cnt<=100000->
  Calls prog 82 #[.pointer (some ⟨q,0,none⟩),v,aG t.rt, .int .i64 (d:Nat)] w (BlE F B u0 q T S m base v (ls++t.list) w)
 | .nil,up,d,v,base,ls,w,ht,hd,ZT,fJ,h,hr,hlen=>by
  have x1:=(Sx.start (F:=F) h).new K 71 (aI dn);have vW:=ah x1;have HR1:Hid (LO tokE 71 _ base v ls):=ah (hr.alloc (.cells (aI dn) 71));obtain⟨w1,uw⟩:=aJ (w.alloc (.cells (aI dn) 71));rw[<-uw]at vW HR1;have Jt:=ah (vW.out.at_ 0);have nI:=ah vW.out.st;have zX:=x1.lo;have gI:=vW.out.fr.size;have N8:¬ (255:Int)<=(d:Int):=by omega
  have HK:=ah K;have aQ:Hid (∀k,F k->k<B):=ah K.low;have rF:=h.hq;clear x1 ht hr h K hd;show Calls prog 82 #[.pointer (some ⟨q,0,none⟩),v,aG dn, .int .i64 (d:Nat)] w _;go_enter func82,ntmps82
  go_wp2_with fail
  rw[show w.alloc (.cells #[.int .i64 dn.1, .int .i64 dn.2] 71)=w1 from uw.symm];clear uw
  refine aP (λu=>⟨#[_,_,_,_,_,_,_,_,_,_,_,_,_,_,_,u 0,u 1,u 2,u 3,u 4,u 5,u 6,u 7,u 8,u 9,_,_,_,_,_,_,_,_,_,_,_,_,_,_,_,_,_,_,_,_,_],_⟩)
   [aF (aG (dn)),
    aF (aG (dn)),
    aF (.bool (true)),
    aF (.bool (true)),
    aF undef,
    aF undef,
    aF undef,
    aF undef,
    aF undef,
    aF (.bool true)]
   F [1] (λj W=>dG B u0 q T (m) (λS1=>S1=S) W) aV aV [] rfl aH (by simp<;>omega) (λk hk=>⟨by have:=aQ.out k hk;omega,by simp⟩) ⟨λ_=>undef,rfl⟩ (⟨S,nI.out.below HK aU.drew,rfl⟩) ?_ ?_ ?_
  ·intro i o hi ho u W hf hold aj jP;have aW:=fw aQ hf Jt
   match i,ho with
   |0,ho=>exact sv ho (aC rfl rfl (aW.cell 0) (aW.cell 1))
   |1,ho=>
    exact absurd aH hi
   |2,ho=>exact sv ho (iI rfl (aj 0 rfl) (aj 1 rfl)) (hp:=(by show Value.bool (decide _)=_;rw[decide_eq_true rfl]))
   |3,ho=>exact sv ho (bg rfl (aj 2 rfl))
   |4,ho|5,ho|6,ho|7,ho|8,ho=>
    obtain rfl:=aA ho;exact aY.skip ((bI rfl (aT (v:=u 3) rfl (aj 3 rfl))).trans rfl) rfl rfl rfl
   |9,ho=>exact sv ho (mM rfl (aj 3 rfl) rfl)
   |n+10,ho=>exact absurd ho aH
  ·intro t i o ht ho u W hf bG aj;have aW:=fw aQ hf Jt
   match t,ht with
   |0,ht=>
    have ht:=aA ht;subst ht;obtain rfl:=aA ho;refine⟨aB rfl,Does.call (fV dP rfl ) ?_⟩;obtain⟨S1,hs,hp⟩:=bG;refine aac (dX W) ?_;rintro e w' ⟨rfl,hb⟩;exact⟨_,rfl,rfl,rfl, .of_below hb,S1,hs.below HK hb,hp⟩
   |n+1,ht=>exact absurd ht aH
  ·intro u W hf bG au;have aW:=fw aQ hf Jt;have e0:=au.q 0;have e1:=au.q 1;have e2:=au.q 2;have e3:=au.q 3;simp only[e0,e1,e2,e3,au.q 4,au.q 5,au.q 6,au.q 7,au.q 8,au.q 9];obtain⟨S1,hs,hp⟩:dG B u0 q T m (λS1=>S1=S) W:=bG;have yX:=ah (vW.out.reg HK (show aZ B u0 q T S m W from hp ▸ hs) hf);have Z4:=ah (HR1.out.fr hf (λk a=>a.elim (λa=>by have:=aQ.out k a;omega) (λa=>absurd a aaj)));clear au hf hs hp aW e0 e1 e2 e3 vW HR1 nI Jt;go_wp2;go_ret;exact⟨v,rfl,yX.out.st,by simpa[Bt.list]using Z4.out,yX.out.fr.more λk a=> .inl a,λk a=> .inl a⟩
 | .node l k r,up,d,v,base,ls,w,ht,hd,ZT,fJ,h,hr,hlen=>by
  have Gv:(Bt.node l k r).cnt=l.cnt+r.cnt+1:=rfl;have VP:=Bt.dU l;obtain⟨hk,hhl,hhr⟩:=ht;have Yz:=ah (λW (hW:aZ B u0 q T S m W) (hrW:LO tokE 71 W base v ls) (hz:base<=W.heap.size)=>F9 K l k (d+1) v base ls W hhl ak ZT hz hW hrW ak);have HIR:=ah (λW v2 (hW:aZ B u0 q T S m W) (hrW:LO tokE 71 W base v2 (ls++l.list++ [k])) (hz:base<=W.heap.size)=>F9 K r k (d+1) v2 base (ls++l.list++ [k]) W hhr ak ZT hz hW hrW (by simp;omega));have HG:=ah (λW (hW:aZ B u0 q T S m W)=>rX K hW hk);have hkn:=(h.ok _ _ hk).1.ne;have HKN:=ah hkn;obtain⟨lt,hlt⟩:=aJ (l.rt);obtain⟨rt,gy⟩:=aJ (r.rt);rw[<-hlt]at Yz;rw[<-gy]at HIR;obtain⟨nn,BU⟩:=aJ (nd up l r);rw[<-BU]at HG;have HNL:Hid (nn.left=lt):=ah (by rw[BU,hlt];rfl);have HNR:Hid (nn.right=rt):=ah (by rw[BU,gy];rfl);have atI:Hid (ls.length+l.list.length+1<=100000):=ah ak;have x1:=(Sx.start (F:=F) h).new K 71 (aI k);have vW:=ah x1;have HR1:Hid (LO tokE 71 _ base v ls):=ah (hr.alloc (.cells (aI k) 71));have HOV:Hid (∀x,v.ownBlock=some x->x<w.heap.size):=ah λx hx=>(ada hr x hx).2;obtain⟨w1,uw⟩:=aJ (w.alloc (.cells (aI k) 71));rw[<-uw]at vW HR1;have Jt:=ah (vW.out.at_ 0);have P6:=ah vW.out.st.self;have nI:=ah vW.out.st;have zX:=x1.lo;have gI:=vW.out.fr.size;have N8:¬ (255:Int)<=(d:Int):=by omega
  have hdw:IntKind.i64.wrap ((d:Int)+1)=((d+1:Nat):Int):=by rw[acK _ ak];rfl
  have HDW:=ah hdw;have HK:=ah K;have aQ:Hid (∀k,F k->k<B):=ah K.low;have rF:=h.hq;show Calls prog 82 #[.pointer (some ⟨q,0,none⟩),v,aG k, .int .i64 (d:Nat)] w _;clear x1 hr h K hd hk hhl hhr hkn hlt gy BU Gv VP hlen hdw;go_enter func82,ntmps82
  go_wp2_with fail
  rw[show w.alloc (.cells #[.int .i64 k.1, .int .i64 k.2] 71)=w1 from uw.symm];clear uw
  refine aP (λu=>⟨#[_,_,_,_,_,_,_,_,_,_,_,_,_,_,_,u 0,u 1,u 2,u 3,u 4,u 5,u 6,u 7,u 8,u 9,_,_,_,_,_,_,_,_,_,_,_,_,_,_,_,_,_,_,_,_,_],_⟩)
   [aF (aG (k)),
    aF (aG (dn)),
    aF (.bool (false)),
    aF (.bool (false)),
    bf q 0,
    bf q 0,
    bf q 1,
    aF (.int .i64 (0)),
    aF (.bool (false)),
    aF (.bool (false))]
   F [1] (λj W=>dG B u0 q T (m) (λS1=>S1=S) W) aV aV [] rfl aH (by simp<;>omega) (λk hk=>⟨by have:=aQ.out k hk;omega,by simp⟩) ⟨λ_=>undef,rfl⟩ (⟨S,nI.out.below HK aU.drew,rfl⟩) ?_ ?_ ?_
  ·intro i o hi ho u W hf hold aj jP;have aW:=fw aQ hf Jt;have dI:=fw aQ hf P6
   match i,ho with
   |0,ho=>exact sv ho (aC rfl rfl (aW.cell 0) (aW.cell 1))
   |1,ho=>
    exact absurd aH hi
   |2,ho=>exact sv ho (iI rfl (aj 0 rfl) (aj 1 rfl)) (hp:=(by show Value.bool (decide _)=_;rw[decide_eq_false HKN.out]))
   |3,ho=>exact sv ho (bg rfl (aj 2 rfl))
   |4,ho=>
    obtain rfl:=aA ho;exact aY.nS ((bI rfl (aT (v:=u 3) rfl (aj 3 rfl))).trans rfl) (bg rfl rfl) rfl rfl rfl
   |5,ho=>
    obtain rfl:=aA ho;exact aY.nS ((bI rfl (aT (v:=u 3) rfl (aj 3 rfl))).trans rfl) (jK rfl (aj 4 rfl)) rfl rfl rfl
   |6,ho=>
    obtain rfl:=aA ho;exact aY.nS ((bI rfl (aT (v:=u 3) rfl (aj 3 rfl))).trans rfl) (tZ rfl (aj 5 rfl)) rfl rfl rfl
   |7,ho=>
    obtain rfl:=aA ho;exact aY.nS ((bI rfl (aT (v:=u 3) rfl (aj 3 rfl))).trans rfl) (uT rfl (aj 6 rfl) (dI.cell 1)) rfl rfl rfl
   |8,ho=>
    obtain rfl:=aA ho;exact aY.nS ((bI rfl (aT (v:=u 3) rfl (aj 3 rfl))).trans rfl) (o7 rfl (aj 7 rfl) rfl) rfl rfl rfl
   |9,ho=>exact sv ho (mM rfl (aj 3 rfl) (aj 8 rfl))
   |n+10,ho=>exact absurd ho aH
  ·intro t i o ht ho u W hf bG aj;have aW:=fw aQ hf Jt;have dI:=fw aQ hf P6
   match t,ht with
   |0,ht=>
    have ht:=aA ht;subst ht;obtain rfl:=aA ho;refine⟨aB rfl,Does.call (fV dP rfl ) ?_⟩;obtain⟨S1,hs,hp⟩:=bG;refine aac (dX W) ?_;rintro e w' ⟨rfl,hb⟩;exact⟨_,rfl,rfl,rfl, .of_below hb,S1,hs.below HK hb,hp⟩
   |n+1,ht=>exact absurd ht aH
  ·intro u W hf bG au;have aW:=fw aQ hf Jt;have dI:=fw aQ hf P6;have e0:=au.q 0;have e1:=au.q 1;have e2:=au.q 2;have e3:=au.q 3;have e4:=au.q 4;have e5:=au.q 5;have e6:=au.q 6;have e7:=au.q 7;have e8:=au.q 8;have e9:=au.q 9;simp only[e0,e1,e2,e3,e4,e5,e6,e7,e8,e9];obtain⟨S1,hs,hp⟩:dG B u0 q T m (λS1=>S1=S) W:=bG;have yX:=ah (vW.out.reg HK (show aZ B u0 q T S m W from hp ▸ hs) hf);have Z4:=ah (HR1.out.fr hf (λk a=>a.elim (λa=>by have:=aQ.out k a;omega) (λa=>absurd a aaj)));obtain⟨w2,yY⟩:=aJ (W);rw[<-yY]at yX Z4 ⊢;obtain⟨k0,k1,lk⟩:=yX.out.tok 0;have Sl:=ah (HG.out _ yX.out.st);clear au hf hs hp aW dI e0 e1 e2 e3 e4 e5 e6 e7 e8 e9 vW HR1 nI Jt P6 HG yY u W;go_wp2_with fail
   refine aac Sl ?_;rintro e w3 ⟨rfl,Aa,nP⟩;have x3:=(yX.out.call HK Aa nP).new HK 124 (fO nn);have r3:=(Z4.out.fr nP (λk a=>by have:=aQ.out k a;omega)).alloc (.cells (fO nn) 124);have IZ:=yX.out.fr.size;have aCc:=nP.size;obtain⟨w6,Oc⟩:=aJ (w3.alloc (.cells (fO nn) 124));rw[<-Oc]at x3 r3;have yA:=ah x3;have EZ:=ah r3;have Oj:=ah (x3.at_ 0);have Du:=ah (x3.at_ 1);have VF:=x3.fr.size;have Ws:=(x3.at_ 0).lt;clear Aa nP x3 r3 yX Z4 Sl k0 k1 lk;go_wp2_with fail
   rw[show w3.alloc (.cells #[.int .i64 nn.up.1, .int .i64 nn.up.2, .int .i64 nn.left.1, .int .i64 nn.left.2, .int .i64 nn.right.1, .int .i64 nn.right.2, .int .i64 nn.count, .int .i64 nn.height] 124)=w6 from Oc.symm];clear Oc
   have HGG:Hid (∀x,(F x\/v.ownBlock=some x)->x<w6.heap.size/\x<w.heap.size):=ah λx a=>by
    rcases a with a | a
    ·have:=aQ.out x a;omega
    ·have:=HOV.out x a;omega
   refine Lu (λu=>⟨#[_,u 10,_,_,_,_,_,_,_,_,_,_,_,_,_,_,_,_,_,_,_,_,_,_,_,_,_,_,_,u 0,u 1,u 2,u 3,u 4,u 5,u 6,u 7,u 8,u 9,_,_,_,_,_,_,_],_⟩) (λu L W=>Wy F B u0 q T S m w6 base v ls (ls++l.list) k (blV q w3.heap.size d v lt k) u L W) aV aV (λi=>match i with | 10=>v | _=>undef) rfl (λL hL=>⟨(λi _ _ a=>by rw[hL]at a;cases a),λ_=>rfl, .of_below aU.drew,yA.out.st.below HK aU.drew,λ_=>EZ.out.below aU.drew,(λa=>by rw[hL]at a;cases a),(λa=>by rw[hL]at a;cases a),(λa=>by rw[hL]at a;cases a),(λa=>by rw[hL]at a;cases a),(λa=>by rw[hL]at a;cases a),(λa=>by rw[hL]at a;cases a),(λa=>by rw[hL]at a;cases a)⟩) ?_ ?_
   ·intro L u W i o h hL iL aj ho;have hN:=h.fr.blk Oj (λa=>by have:=(HGG.out _ a).2;omega);have hK:=h.fr.blk Du (λa=>by have:=(HGG.out _ a).2;omega);have hp:∀j,j<8->j≠6->L.getD j false=true->u j=blV q w3.heap.size d v lt k j:=h.p;have Ac:=h.fr.size;have n2:W.cell? ⟨w3.heap.size,2,none⟩=some (.int .i64 lt.1):=by rw[<-HNL.out];exact hN.cell 2
    have n3:W.cell? ⟨w3.heap.size,3,none⟩=some (.int .i64 lt.2):=by rw[<-HNL.out];exact hN.cell 3
    match i,ho with
    |0,ho|4,ho=>
     obtain rfl:=aA ho;exact⟨aB rfl,Does.val (bg rfl rfl) ⟨_,rfl,h.Py ay ay hL⟩⟩
    |1,ho=>
     obtain rfl:=aA ho;exact⟨aB rfl,Does.val (bg rfl (h.l (by cases e:L.getD 10 false with | false=>rfl | true=>have:=h.c6 (h.c9 (h.c10 e));rw[iL]at this;cases this))) ⟨_,rfl,h.Py ay ay hL⟩⟩
    |2,ho=>
     obtain rfl:=aA ho;exact⟨aB rfl,Does.val (gG rfl rfl) ⟨_,rfl,h.Py ay ay hL⟩⟩
    |3,ho=>
     obtain rfl:=aA ho;exact⟨aB rfl,Does.val (aC rfl (hp 2 ay ay (aj 2 rfl)) n2 n3) ⟨_,rfl,h.Py ay ay hL⟩⟩
    |5,ho=>
     obtain rfl:=aA ho;exact⟨aB rfl,Does.val (FN rfl (hp 4 ay ay (aj 4 rfl)) rfl) ⟨_,(by rw[HDW.out];rfl),h.Py ay ay hL⟩⟩
    |6,ho=>
     obtain rfl:=aA ho;have h10:L.getD 1 false=true:=aj 1 rfl;refine⟨aB rfl,Does.call (fU acf rfl (hp 0 ay ay (aj 0 rfl)) (hp 1 ay ay h10) (hp 3 ay ay (aj 3 rfl)) (hp 5 ay ay (aj 5 rfl))) ?_⟩;refine aac (Yz.out W h.st (h.r0 iL) ak) ?_;rintro e w' ⟨v',rfl,a1,a2,a3,a4⟩;exact⟨v',rfl,_,rfl,h.call_ iL h10 hL a1 a2 a3 a4 (λx a=>(HGG.out x a).1)⟩
    |7,ho=>
     obtain rfl:=aA ho;exact⟨aB rfl,Does.val (aC rfl rfl (hK.cell 0) (hK.cell 1)) ⟨_,rfl,h.Py ay ay hL⟩⟩
    |8,ho=>
     obtain rfl:=aA ho;exact⟨aB rfl,Does.val (X8 rfl (hp 7 ay ay (aj 7 rfl))) ⟨_,rfl,h.am1 HK⟩⟩
    |9,ho=>
     obtain rfl:=aA ho;have h6:L.getD 6 false=true:=aj 6 rfl;obtain⟨b,b1,b2,b3,b4⟩:=h.b8 (aj 8 rfl) iL;refine⟨aB rfl,ace (E:=tokE) (s:=k) rfl aru underlying57 rfl rfl rfl (h.r1 h6 iL).1 b2 b3 (by have:=atI.out;unfold maxLen;simp;omega) (by have:=atI.out;simp;omega) ak (λv' w' c1 c2 c3=>⟨_,rfl,h.awD HK h6 iL hL ZT c1 c2 c3⟩)⟩
    |10,ho=>
     obtain rfl:=aA ho;exact⟨aB rfl,Does.val (jo rfl rfl) ⟨_,rfl,h.al9 (aj 9 rfl) hL⟩⟩
    |n+11,ho=>exact absurd ho aH
   ·intro L u W au h;obtain⟨c1,c2⟩:=h.r2 (au 9 ay);have ce:=h.e10 (au 10 ay);obtain⟨v2,Oq⟩:=aJ (u 10);rw[<-ce, <-Oq]at c1 c2;have Ac:=h.fr.size;have hF7:=h.fr;have x7:Sx F B u0 q T w S m w6 _:=yA.out;have hN:=h.fr.blk Oj (λa=>by have:=(HGG.out _ a).2;omega);have n4:W.cell? ⟨w3.heap.size,4,none⟩=some (.int .i64 rt.1):=by rw[<-HNR.out];exact hN.cell 4
    have n5:W.cell? ⟨w3.heap.size,5,none⟩=some (.int .i64 rt.2):=by rw[<-HNR.out];exact hN.cell 5
    have ln:=hN.lt;have HI7:=ah (HIR.out W v2 h.st c1 ak);have arw:=ah c2;have xA:Hid (Fr (λx=>F x\/v.ownBlock=some x) w W):=ah ((x7.fr.more λk a=> .inl a).trans hF7);simp only[show u 10=v2 from Oq.symm];have hdw:=HDW.out;clear Oq ce c1 c2 h hF7 x7 hN HIR Yz yA EZ Oj Du au;go_wp2_with fail
    refine aac HI7 ?_;rintro e w8 ⟨v3,rfl,d1,d2,d3,d4⟩;have HE:Hid (BlE F B u0 q T S m base v (ls++(Bt.node l k r).list) w (.returned v3) w8):=ah ⟨v3,rfl,d1,by simpa[Bt.list]using d2,xA.out.newP d3 (λx a=>a.elim (λa=> .inl (.inl a)) λa=>(arw.out x a).elim (λa=> .inl (.inr a)) λa=> .inr ak),(arw.out.more ak).afK (d4.more ak)⟩;clear d1 d2 d3 d4 HI7;go_wp2;go_ret;exact HE
end
section
variable {F:Nat->Prop}{B u0 q m:Nat}{T:List bT->Nat->World->Prop}{S:St}{w w':World}
theorem ai5(K:Kv F B u0 T)(h:aZ B u0 q T S m w){k:Tok}{n:TN}{l l':List (Tok × TN)}(hl:l=(k,n)::l')(uD:rC S l)(hn:l.length<=250){t:Bt}(hr:iJ l l.length=t.rt)(ht:eY S dn t)(hc:t.cnt<=250):
  Calls prog 56 #[.pointer (some ⟨q,0,none⟩),aG k] w λe w'=>∃A c,e= .returned (.tuple #[.slice A t.list.length c, .int .i64 0])/\LO tokE 71 w' w.heap.size (.slice A t.list.length c) t.list/\aZ B u0 q T S m w'/\Fr F w w':=by
 have Lh:=ah (λW (hW:aZ B u0 q T S m W)=>Dj K hW hl uD hn);rw[hr]at Lh;have HBL:=ah (λW (hW:aZ B u0 q T S m W) (hq:q<W.heap.size)=>F9 K t dn 0 (.slice none 0 0) W.heap.size [] W ht ak hq aK hW (LO.nil_ _ _) (by simp;omega));have x1:=(Sx.start (F:=F) h).new K 71 (aI k);have vW:=ah x1;have afL:=ah (Lh.out _ x1.st);obtain⟨rt,gy⟩:=aJ (t.rt);obtain⟨nt,hnt⟩:=aJ (lastOf l l.length);rw[<-gy, <-hnt]at afL;rw[<-gy]at HBL;obtain⟨tl,lI⟩:=aJ (t.list);rw[List.nil_append, <-lI]at HBL;rw[<-lI];have hql:=x1.ql;have HK:=ah K;clear x1 h K hl uD hr ht gy hnt lI Lh hn hc;go_enter func56,ntmps56
 go_wp2_with fail
 refine aac afL ?_;rintro e w1 ⟨rfl,jr,eH⟩;have x3:=vW.out.call HK jr eH;obtain⟨k0,k1,lk⟩:=x3.tok 0;have fk:=(x3.at_ 0).frozen;have fk0:=fk 0;have fk1:=fk 1;have x4:=(x3.jg HK 0 rt).new HK 124 (fO nt);simp only[akW]at x4;obtain⟨w4,vU⟩:=aJ (((w1.setCell ⟨w.heap.size,0,none⟩ (.int .i64 rt.1)).setCell ⟨w.heap.size,1,none⟩ (.int .i64 rt.2)).alloc (.cells (fO nt) 124));rw[<-vU]at x4;have yU:=x4.fr.size;have uJ:=ah x4;have arx:=ah (HBL.out _ x4.st ak);clear jr eH x3 x4 fk vW afL HBL;go_wp2_with fail
 rw[show((w1.setCell ⟨w.heap.size,0,none⟩ (.int .i64 rt.1)).setCell ⟨w.heap.size,1,none⟩ (.int .i64 rt.2)).alloc (.cells #[.int .i64 nt.up.1, .int .i64 nt.up.2, .int .i64 nt.left.1, .int .i64 nt.left.2, .int .i64 nt.right.1, .int .i64 nt.right.2, .int .i64 nt.count, .int .i64 nt.height] 124)=w4 from vU.symm];clear vU k0 k1 fk0 fk1;refine aac arx ?_;rintro e w5 ⟨v',rfl,MS,hr5,Iz,_⟩;obtain⟨A,c,rfl⟩:=hr5.form;have vV:=ah (uJ.out.call HK MS (Iz.more λk a=>a.elim id λa=>by simp[Value.ownBlock]at a));have nX:=ah (hr5.lower yU);obtain⟨_,q1,lq⟩:=vV.out.err;clear MS hr5 Iz uJ arx;go_wp2;go_ret2;exact⟨A,c,rfl,nX,vV.out.st,vV.out.fr⟩
end
section
variable {F:Nat->Prop}{B u0 q m:Nat}{T:List bT->Nat->World->Prop}{S:St}{w w':World}
theorem ai6(K:Kv F B u0 T)(h:aZ B u0 q T S m w){a b:Tok}{n n':TN}{la la' lb lb':List (Tok × TN)}(RX:la=(a,n)::la')(hpa:rC S la)(Wh:la.length<=250)(Nc:lb=(b,n')::lb')(Fb:rC S lb)(xq:lb.length<=250){ta tb:Bt}(hra:iJ la la.length=ta.rt)(hrb:iJ lb lb.length=tb.rt)(GN:eY S dn ta)(GR:eY S dn tb)(jF:(ta.list++tb.list).Nodup)(hc:ta.cnt+tb.cnt<=250)(n1:ta≠Bt.nil)(n2:tb≠Bt.nil):
  Calls prog 72 #[.pointer (some ⟨q,0,none⟩),aG a,aG b] w λe w'=>e= .returned (.int .i64 0)/\(∃S',aZ B u0 q T S' m w'/\eY S' dn (glue ta tb)/\Same (ta.list++tb.list) S S')/\Fr F w w':=by
 have dL:¬ta.rt=tb.rt:=λe=>(apart jF).2.2 _ (Bt.F5 n1) (e ▸ Bt.F5 n2);have BP:(glue ta tb).list=ta.list++tb.list:=Sq.AP _ _;have hgn:glue ta tb≠Bt.nil:=λe=>by rw[e]at BP;have:=Bt.F5 n1;rw[show ta.list= []from(List.append_eq_nil_iff.1 BP.symm).1]at this;exact absurd this aaj
 have hSM:=Q8 K h RX hpa Wh Nc Fb xq;have wz:=ah (λW (hW:aZ B u0 q T S m W)=>Q8 K hW RX hpa Wh Nc Fb xq);have HTA:=ah (λW (hW:aZ B u0 q T S m W)=>Dj K hW RX hpa Wh);have HTB:=ah (λW (hW:aZ B u0 q T S m W)=>Dj K hW Nc Fb xq);have sG:=ah (λW (hW:aZ B u0 q T S m W)=>afo K hW GN.sub GR.sub jF hc n1 n2);rw[hra,hrb,decide_eq_false dL]at wz;rw[hra]at HTA;rw[hrb]at HTB;obtain⟨tg,jP⟩:=aJ (glue ta tb);rw[<-jP]at sG BP hgn ⊢;have HRT:=ah (λS1 W (hm:Mk S S1 tg) (hW:aZ B u0 q T S1 m W)=>Le K hW hm.sub hgn);have Dh:Hid (∀S1,Mk S S1 tg->eY (hgS S1 dn tg) dn tg/\Same (ta.list++tb.list) S (hgS S1 dn tg)):=ah λS1 hm=>⟨zN hm.sub (by rw[BP];exact jF),by rw[<-BP];exact hm.same.trans (uf _ _ _)⟩;obtain⟨ra,am2⟩:=aJ (ta.rt);obtain⟨rb,am3⟩:=aJ (tb.rt);obtain⟨rg,hrg⟩:=aJ (tg.rt);obtain⟨na,afq⟩:=aJ (lastOf la la.length);obtain⟨nb,afr⟩:=aJ (lastOf lb lb.length);unfold EY at sG;rw[<-am2, <-afq]at HTA;rw[<-am3, <-afr]at HTB;rw[<-am2, <-am3, <-hrg]at sG;rw[<-hrg]at HRT;have x2:=((Sx.start (F:=F) h).new K 71 (aI a)).new K 71 (aI b);simp only[aad]at x2;have yX:=ah x2;have arz:=ah (wz.out _ x2.st);have zX:=x2.lo;have hql:=x2.ql;have HK:=ah K;clear hSM x2 h K RX hpa Wh Nc Fb xq hra hrb GN GR jF hc n1 n2 dL BP hgn jP am2 am3 hrg afq afr wz;go_enter func72,ntmps72
 go_wp2_with fail
 refine aac arz ?_;rintro e w1 ⟨rfl,jr,eH⟩;have x3:=yX.out.call HK jr eH;obtain⟨c0,c1,l1⟩:=x3.tok 1;have BD:=ah x3;have arA:=ah (HTA.out _ jr);clear jr eH x3 yX arz HTA;go_wp2_with fail
 refine aac arA ?_;rintro e w2 ⟨rfl,mW,yK⟩;have x4:=BD.out.call HK mW yK;obtain⟨d0,d1,l2⟩:=x4.tok 0;have l2b:w.heap.size+1<w2.heap.size+1:=by omega
 have x5:=(x4.new HK 71 (aI ra)).new HK 124 (fO na);have vV:=ah x5;have arB:=ah (HTB.out _ x5.st);clear mW yK x4 x5 BD arA c0 c1 HTB;go_wp2_with fail
 refine aac arB ?_;rintro e w3 ⟨rfl,Aa,nP⟩;have x6:=vV.out.call HK Aa nP;obtain⟨r0,r1,l3⟩:=x6.tok 1;have l3b:w2.heap.size<w3.heap.size+1:=by omega
 have x7:=(x6.new HK 71 (aI rb)).new HK 124 (fO nb);have Cj:=ah x7;have arC:=ah (sG.out _ x7.st);clear Aa nP x6 x7 vV arB d0 d1 sG;go_wp2_with fail
 refine aac arC ?_;rintro e w4 ⟨rfl,⟨S1,YB,hm⟩,sW⟩;have GU:=ah (Cj.out.call HK YB sW);have arD:=ah (HRT.out S1 _ hm YB);have Iu:=ah (Dh.out S1 hm);clear YB hm sW Cj arC HRT Dh r0 r1;go_wp2_with fail
 refine aac arD ?_;rintro e w5 ⟨rfl,MS,Iz⟩;have HX9:=ah (GU.out.call HK MS Iz);obtain⟨_,q1,lq⟩:=HX9.out.err;clear MS Iz GU arD;go_wp2;go_ret;exact⟨rfl,⟨_,HX9.out.st,Iu⟩,HX9.out.fr⟩
end
section
variable {F:Nat->Prop}{B u0 q m:Nat}{T:List bT->Nat->World->Prop}{S:St}{w w':World}
theorem ai7{l r:Bt}{k:Tok}{i:Nat}(h:i<(Bt.node l k r).list.length):(i<l.cnt/\∃h2,(Bt.node l k r).list[i]=l.list[i]'h2)\/(i=l.cnt/\(Bt.node l k r).list[i]=k)\/(l.cnt<i/\∃h2,(Bt.node l k r).list[i]=r.list[i-l.cnt-1]'h2):=by
 have e:(Bt.node l k r).list=l.list++k::r.list:=rfl;rw[Bt.dU];rw[e,aag,acH]at h;rcases Nat.lt_trichotomy i l.list.length with h1 | h1 | h1
 ·exact .inl ⟨h1,h1,by simp only[e];rw[List.getElem_append_left h1]⟩
 ·refine .inr (.inl ⟨h1, ?_⟩);subst h1;simp only[e];rw[ahv aK];simp
 ·refine .inr (.inr ⟨h1,by omega, ?_⟩);simp only[e];rw[ahv ak,List.getElem_cons];split
  ·omega
  ·rfl
theorem arE(K:Kv F B u0 T)(h:aZ B u0 q T S m w){k:Tok}{n:TN}{l l':List (Tok × TN)}(hl:l=(k,n)::l')(uD:rC S l)(hn:l.length<=250){t:Bt}(hr:iJ l l.length=t.rt)(RX:lastOf l l.length=tv dn t)(ht:eY S dn t)(hc:t.cnt<=250){i:Nat}(hi:i<t.list.length):
  Calls prog 73 #[.pointer (some ⟨q,0,none⟩),aG k, .int .i64 (i:Nat)] w λe w'=>e= .returned (.tuple #[aG t.list[i], .int .i64 0])/\aZ B u0 q T S m w'/\Fr F w w':=by
 have Lh:=ah (λW (hW:aZ B u0 q T S m W)=>Dj K hW hl uD hn);rw[hr,RX]at Lh;have HGT:=ah (λW up t1 (hW:aZ B u0 q T S m W) (pI:eY S up t1)=>dY K hW pI);obtain⟨x,hx⟩:=aJ (t.list[i]);rw[<-hx];have HI0:Hid (eY S dn t/\t.cnt<=250/\∃h,t.list[i]'h=x):=ah ⟨ht,hc,hi,hx.symm⟩;have Vu:i<t.cnt:=by rw[Bt.dU];exact hi
 have Yz:=ah Vu;have x2:=((Sx.start (F:=F) h).new K 71 (aI k)).new K 71 (aI (0,0));rw[aad]at x2;have yX:=ah x2;have afM:=ah (Lh.out _ x2.st);obtain⟨rt,gy⟩:=aJ (t.rt);obtain⟨nt,hnt⟩:=aJ (tv dn t);have Gv:nt.count=t.cnt:=by rw[hnt,vN]
 rw[<-gy, <-hnt]at afM;have HRT:=ah gy;have HNT:=ah hnt;have ZX:=ah Gv;have zX:=x2.lo;have hql:=x2.ql;have EH:¬ (i:Int)<0:=by omega
 have N9:(i:Int)<(nt.count:Int):=by rw[Gv];omega
 have hi2:¬ (nt.count:Int)<=(i:Int):=by omega
 have hi3:decide ((i:Int)<0)=false:=decide_eq_false ak;have hi4:decide (nt.count<=i)=false:=decide_eq_false ak;have HK:=ah K;clear x2 h K hl uD hr RX ht hi hx gy hnt Gv Lh Vu hn hc;go_enter func73,ntmps73
 go_wp2_with fail
 refine aac afM ?_;rintro e w1 ⟨rfl,jr,eH⟩;have x3:=yX.out.call HK jr eH;obtain⟨k0,k1,lk⟩:=x3.tok 1;have fk:=(x3.at_ 1).frozen;have fk0:=fk 0;have fk1:=fk 1;have x4:=(x3.jg HK 1 rt).new HK 124 (fO nt);simp only[akW]at x4;have uJ:=ah x4;clear jr eH x3 x4 fk yX afM;go_wp2;obtain⟨w2,yY⟩:=aJ (((w1.setCell ⟨w.heap.size,0,none⟩ (.int .i64 rt.1)).setCell ⟨w.heap.size,1,none⟩ (.int .i64 rt.2)).alloc (.cells (fO nt) 124));rw[<-yY]at uJ;rw[show((w1.setCell ⟨w.heap.size,0,none⟩ (.int .i64 rt.1)).setCell ⟨w.heap.size,1,none⟩ (.int .i64 rt.2)).alloc (.cells #[.int .i64 nt.up.1, .int .i64 nt.up.2, .int .i64 nt.left.1, .int .i64 nt.left.2, .int .i64 nt.right.1, .int .i64 nt.right.2, .int .i64 nt.count, .int .i64 nt.height] 124)=w2 from yY.symm];clear yY k0 k1 fk0 fk1
 go_loopw [2,31] (λs2 s31 wr=>∃ (j i1:Nat) (t1:Bt) (up:Tok),s2= .int .i64 (i1:Nat)/\s31= .int .i64 (j:Nat)/\Hid (eY S up t1/\j+t1.cnt<=250/\∃h,t1.list[i1]'h=x)/\Hid (Sx F B u0 q T w S m wr [(w1.heap.size,124,fO (tv up t1)),(w.heap.size+1,71,aI (0,0)),(w.heap.size,71,aI t1.rt)])) (λ_ s31 _=>255-(intOf s31).toNat)
 case atStart=>exact⟨0,i,t,dn,rfl,rfl,ah ⟨HI0.out.1,by have:=HI0.out.2.1;omega,HI0.out.2.2⟩,by rw[<-HRT.out, <-HNT.out];exact uJ⟩
 case round=>
  obtain⟨j,i1,t1,up,rfl,rfl,HI,HX⟩:=hrel;have Oe:=HX.out.fr.size
  cases t1 with
  |nil=>exact absurd HI.out.2.2.1 (by simp[Bt.list])
  |node l2 k2 r2=>
   obtain⟨h1,hct,hi5,hx5⟩:=HI.out;obtain⟨_,hhl,hhr⟩:=h1;have MB:(j:Int)<255:=by omega
   have h5:=ai7 hi5;have hib:i1<=250:=by have:=hi5;rw[<-Bt.dU]at this;omega
   have IW:(Bt.node l2 k2 r2).cnt=l2.cnt+r2.cnt+1:=rfl;have sG:=ah (λW (hW:aZ B u0 q T S m W)=>HGT.out W k2 l2 hW hhl);have arF:=HGT;obtain⟨lt,hlt⟩:=aJ (l2.rt);obtain⟨nl,Dx⟩:=aJ (tv k2 l2);have VP:nl.count=l2.cnt:=by rw[Dx,vN]
   have HC1:=ah VP;obtain⟨nn,BU⟩:=aJ (nd up l2 r2);have hn0:nn.left=lt:=by rw[BU,hlt];rfl
   rw[<-hlt, <-Dx]at sG;have x5:=HX.out;rw[show tv up (Bt.node l2 k2 r2)=nn from BU.symm,show(Bt.node l2 k2 r2).rt=k2 from rfl]at x5;obtain⟨⟨b0,b1,b2,b3,b4,b5,b6,b7⟩,lb⟩:=x5.tn 0;rw[hn0]at b2 b3;have arG:=ah x5;have arH:=ah (sG.out _ x5.st);clear x5 hlt HX sG Dx VP b0 b1 b4 b5 b6 b7;go_wp2_with fail
   refine aac arH ?_;rintro e w3 ⟨rfl,Aa,nP⟩;have x5:=arG.out.call HK Aa nP;obtain⟨⟨b0,b1,b2,b3,b4,b5,b6,b7⟩,lb⟩:=x5.tn 0;obtain⟨a0,a1,la⟩:=x5.tok 1;obtain⟨c0,c1',lc⟩:=x5.tok 2;have fk:=(x5.at_ 2).frozen;have fk0:=fk 0;have fk1:=fk 1;have fa:=(x5.at_ 1).frozen;have a2:=fa 0;have a3:=fa 1;obtain⟨_,q1,lq⟩:=x5.err;have vV:=ah x5;clear Aa nP x5 arG arH fk fa hn0;have VP:=HC1.out;have hfl:=UZ nl w3;rcases h5 with⟨rZ,rE,hq3⟩ | ⟨rZ,hq3⟩ | ⟨rZ,rE,hq3⟩
   ·have jB:∃h,l2.list[i1]'h=x:=⟨rE,hq3.symm.trans hx5⟩;clear rE hq3 hx5 hi5
    ·have Sl:=ah (λW (hW:aZ B u0 q T S m W)=>HGT.out W k2 l2 hW hhl);obtain⟨rt2,IG⟩:=aJ (l2.rt);obtain⟨nt2,Yb⟩:=aJ (tv k2 l2);rw[<-IG, <-Yb]at Sl;have am4:=ah IG;have am5:=ah Yb;have HH:=ah (show eY S k2 l2/\j+1+l2.cnt<=250/\∃h,l2.list[i1]'h=x from⟨hhl,by omega,jB⟩);have Nh:nn.left=rt2:=by rw[BU,IG];rfl
     rw[Nh]at b2 b3;have Dy:¬ (i1:Int)=(nl.count:Int):=by omega
     have hc3:(i1:Int)<(nl.count:Int):=by omega
     obtain⟨w4,vU⟩:=aJ ((w3.setCell ⟨w.heap.size,0,none⟩ (.int .i64 rt2.1)).setCell ⟨w.heap.size,1,none⟩ (.int .i64 rt2.2));have x6:=vV.out.jg HK 2 rt2;rw[<-vU]at x6;have yA:=ah x6;have Oi:=ah (Sl.out _ x6.st);clear x6 Nh IG Yb jB BU hhl hhr Sl HI arF hct VP;go_wp2_with fail
     rw[<-vU];refine aac Oi ?_;rintro e w6 ⟨rfl,Jw,wZ⟩;have x7:=yA.out.call HK Jw wZ;obtain⟨⟨m0,m1,m2,m3,m4,m5,m6,m7⟩,lm⟩:=x7.tn 0;have fm:=(x7.at_ 0).frozen;have fm0:=fm 0;have fm1:=fm 1;have fm2:=fm 2;have fm3:=fm 3;have fm4:=fm 4;have fm5:=fm 5;have fm6:=fm 6;have fm7:=fm 7;obtain⟨_,q1,lq⟩:=x7.err;have hqn:¬q=w1.heap.size:=by omega
     have awE:¬w1.heap.size=q:=by omega
     have x8:=x7.arh HK 0 nt2;have GU:=ah x8;clear Jw wZ x7 x8 fm yA Oi vU a0 a1 a2 a3 b0 b1 b2 b3 b4 b5 b6 b7 c0 c1' fk0 fk1 vV;go_wp2
     go_roundw
     case rel=>exact⟨j+1,i1,l2,k2,rfl,by go_num,HH,by rw[<-am4.out, <-am5.out];exact GU⟩
     case measure=>simp[intOf];omega
   ·have Dy:(i1:Int)=(nl.count:Int):=by omega
    have hkx:k2=x:=hq3.symm.trans hx5;have HB:=ah (vV.out.jg HK 1 k2);have HKX:=ah hkx;have hc3:((i1:Int)==(nl.count:Int))=true:=by rw[Dy];exact beq_self_eq_true _
    clear rZ hq3 hkx hx5 hi5 BU hhl hhr HI hct VP HC1 IW;go_wp2;refine bodyPost_ret (bJ dW rfl rfl (HB.out.at_ 1) rfl) rfl ?_;exact⟨by rw[<-HKX.out];rfl,HB.out.st,HB.out.fr⟩
   ·have jB:∃h,r2.list[i1-l2.cnt-1]'h=x:=⟨rE,hq3.symm.trans hx5⟩;clear rE hq3 hx5 hi5
    ·have Sl:=ah (λW (hW:aZ B u0 q T S m W)=>HGT.out W k2 r2 hW hhr);obtain⟨rt2,IG⟩:=aJ (r2.rt);obtain⟨nt2,Yb⟩:=aJ (tv k2 r2);rw[<-IG, <-Yb]at Sl;have am4:=ah IG;have am5:=ah Yb;have HH:=ah (show eY S k2 r2/\j+1+r2.cnt<=250/\∃h,r2.list[(i1-l2.cnt-1)]'h=x from⟨hhr,by omega,jB⟩);have Nh:nn.right=rt2:=by rw[BU,IG];rfl
     rw[Nh]at b4 b5;have Dy:¬ (i1:Int)=(nl.count:Int):=by omega
     have hc3:¬ (i1:Int)<(nl.count:Int):=by omega
     have hi2:IntKind.i64.wrap (IntKind.i64.wrap ((i1:Int)-(nl.count:Int))-1)=((i1-l2.cnt-1:Nat):Int):=by rw[acK ((i1:Int)-(nl.count:Int)) ak,acK _ ak];omega
     obtain⟨w4,vU⟩:=aJ ((w3.setCell ⟨w.heap.size,0,none⟩ (.int .i64 rt2.1)).setCell ⟨w.heap.size,1,none⟩ (.int .i64 rt2.2));have x6:=vV.out.jg HK 2 rt2;rw[<-vU]at x6;have yA:=ah x6;have Oi:=ah (Sl.out _ x6.st);clear x6 Nh IG Yb jB BU hhl hhr Sl HI arF hct VP;go_wp2_with fail
     rw[<-vU];refine aac Oi ?_;rintro e w6 ⟨rfl,Jw,wZ⟩;have x7:=yA.out.call HK Jw wZ;obtain⟨⟨m0,m1,m2,m3,m4,m5,m6,m7⟩,lm⟩:=x7.tn 0;have fm:=(x7.at_ 0).frozen;have fm0:=fm 0;have fm1:=fm 1;have fm2:=fm 2;have fm3:=fm 3;have fm4:=fm 4;have fm5:=fm 5;have fm6:=fm 6;have fm7:=fm 7;obtain⟨_,q1,lq⟩:=x7.err;have hqn:¬q=w1.heap.size:=by omega
     have awE:¬w1.heap.size=q:=by omega
     have x8:=x7.arh HK 0 nt2;have GU:=ah x8;clear Jw wZ x7 x8 fm yA Oi vU a0 a1 a2 a3 b0 b1 b2 b3 b4 b5 b6 b7 c0 c1' fk0 fk1 vV;go_wp2
     go_roundw
     case rel=>exact⟨j+1,(i1-l2.cnt-1),r2,k2,by have:=HC1.out;congr 1;omega,by go_num,HH,by rw[<-am4.out, <-am5.out];exact GU⟩
     case measure=>simp[intOf];omega
end
end Go.Proofs.YtadnmegdbllaoaaGreatDoor
namespace Sq
open Bt
theorem am6{t:Bt}{x:Tok}(h:t.list= [x]):t=node .nil x .nil:=by
 cases t with
 |nil=>simp[list]at h
 |node l k r=>
  simp only[list]at h;rcases List.append_eq_singleton_iff.1 h with⟨h1,h2⟩ | ⟨_,h2⟩
  ·injection h2 with h2 h3;rw[UL h1,UL h3,h2]
  ·cases h2
end Sq
namespace Go.Proofs.YtadnmegdbllaoaaGreatDoor
open Go.RowKit Go.Shelf Sq Tryz
section
variable {F:Nat->Prop}{B u0 q m:Nat}{T:List bT->Nat->World->Prop}{S:St}{w w':World}{f g:List Bt}{t ta tb:Bt}{x y:Tok}
theorem vO(hf:Fo f S)(ht:t∈f)(hx:x∈t.list)(hc:t.cnt<=249):∃a b c z,t=plug (Bt.node a x b) c/\path a x b c=(x,nd (yF c) a b)::z/\rC S (path a x b c)/\(path a x b c).length<=250/\iJ (path a x b c) (path a x b c).length=t.rt/\lastOf (path a x b c) (path a x b c).length=tv dn t/\eY S dn t/\t.list.Nodup:=by
 obtain⟨a,b,c,e⟩:=QV t hx [];have e:t=plug (Bt.node a x b) c:=e;have hh:=(hf.hang t ht).2;obtain⟨z,hz⟩:=jE c a x b;have hl:=tY c a x b;have qP:=xR c (Bt.node a x b);obtain⟨p1,p2⟩:=qE c a x b;rw[<-hl, <-e]at p1 p2;rw[<-e]at qP;have Gv:(Bt.node a x b).cnt=a.cnt+b.cnt+1:=rfl;exact⟨a,b,c,z,e,hz,xY c a x b (e ▸ hh),by omega,p1,p2,hh,hf.nodup ht⟩
theorem Zy(K:Kv F B u0 T)(h:aZ B u0 q T S m w)(hf:Fo f S)(ht:t∈f)(hx:x∈t.list)(hc:t.cnt<=249):Calls prog 44 #[.pointer (some ⟨q,0,none⟩),aG x] w λe w'=>e= .returned (.tuple #[.int .i64 (t.cnt:Nat), .int .i64 0])/\aZ B u0 q T S m w'/\Fr F w w':=by
 obtain⟨a,b,c,z,_,hz,hp,hl,_,h2,_⟩:=vO hf ht hx hc;have:=zQ K h hz hp hl
 rwa [h2,vN]at this
theorem am7(K:Kv F B u0 T)(h:aZ B u0 q T S m w)(hf:Fo f S)(ht:ta∈f)(hx:x∈ta.list)(hc:ta.cnt<=249)(AZ:tb∈f)(hy:y∈tb.list)(Dy:tb.cnt<=249):Calls prog 54 #[.pointer (some ⟨q,0,none⟩),aG x,aG y] w λe w'=>e= .returned (.tuple #[.bool (decide (ta.rt=tb.rt)), .int .i64 0])/\aZ B u0 q T S m w'/\Fr F w w':=by
 obtain⟨a,b,c,z,_,hz,hp,hl,h1,_⟩:=vO hf ht hx hc;obtain⟨a',b',c',z',_,hz',hp',ZJ,YA,_⟩:=vO hf AZ hy Dy;have:=Q8 K h hz hp hl hz' hp' ZJ
 rwa [h1,YA]at this
theorem am8(K:Kv F B u0 T)(h:aZ B u0 q T S m w)(hf:Fo f S)(ht:t∈f){p r:List Tok}(hx:t.list=p++x::r)(hc:t.cnt<=249):Calls prog 35 #[.pointer (some ⟨q,0,none⟩),aG x] w λe w'=>e= .returned (.tuple #[.int .i64 (p.length:Nat), .int .i64 0])/\aZ B u0 q T S m w'/\Fr F w w':=by
 obtain⟨a,b,c,z,e,hz,hp,hl,_,_,hh,hn⟩:=vO hf ht (x:=x) (by rw[hx];simp) hc;subst e;have hS:∀x n,S x=some n->x≠dn:=λx n hx=>(h.ok x n hx).1.ne;have Fa:=Ej hS c a x b hh hn;have e2:(jX c++a.list)++x::(b.list++nC c)=p++x::r:=by rw[<-hx,jh];simp[Bt.list]
 rw[(Lr e2 (by rw[e2, <-hx];exact hn)).1]at Fa;have:=Em K h hz hp hl (qG c a x b hh)
 rwa [Fa]at this
theorem arI(K:Kv F B u0 T)(h:aZ B u0 q T S m w)(hf:Fo f S)(ht:t∈f)(hx:x∈t.list)(hc:t.cnt<=249){i:Nat}(hi:i<t.list.length):Calls prog 73 #[.pointer (some ⟨q,0,none⟩),aG x, .int .i64 (i:Nat)] w λe w'=>e= .returned (.tuple #[aG t.list[i], .int .i64 0])/\aZ B u0 q T S m w'/\Fr F w w':=by
 obtain⟨a,b,c,z,_,hz,hp,hl,h1,h2,hh,_⟩:=vO hf ht hx hc;exact arE K h hz hp hl h1 h2 hh ak hi
theorem am9(K:Kv F B u0 T)(h:aZ B u0 q T S m w)(hf:Fo f S)(ht:t∈f)(hx:x∈t.list)(hc:t.cnt<=249):Calls prog 56 #[.pointer (some ⟨q,0,none⟩),aG x] w λe w'=>∃A c,e= .returned (.tuple #[.slice A t.list.length c, .int .i64 0])/\LO tokE 71 w' w.heap.size (.slice A t.list.length c) t.list/\aZ B u0 q T S m w'/\Fr F w w':=by
 obtain⟨a,b,c,z,_,hz,hp,hl,h1,_,hh,_⟩:=vO hf ht hx hc;exact ai5 K h hz hp hl h1 hh ak
theorem ana(K:Kv F B u0 T)(h:aZ B u0 q T S (m+1) w)(hf:Fo f S)(hv:yR x)(hx:x ∉ toks f):Calls prog 40 #[.pointer (some ⟨q,0,none⟩),aG x] w λe w'=>e= .returned (.int .i64 0)/\(∃S',aZ B u0 q T S' m w'/\Fo (Bt.node .nil x .nil::f) S')/\Fr F w w':=by
 refine(aiX K h hv (hf.none_.2 hx)).mono ?_;rintro e w' ⟨rfl,h1,h2⟩;exact⟨rfl,⟨_,h1,hf.make (hf.none_.2 hx)⟩,h2⟩
theorem afN(K:Kv F B u0 T)(h:aZ B u0 q T S m w)(hf:Fo (t::g) S)(hx:t.list= [x]):Calls prog 71 #[.pointer (some ⟨q,0,none⟩),aG x] w λe w'=>e= .returned (.int .i64 0)/\(∃S',aZ B u0 q T S' m w'/\Fo g S')/\Fr F w w':=by
 obtain rfl:=am6 hx;refine(ab1 K h (hf.hang _ aae).2.1 rfl rfl).mono ?_;rintro e w' ⟨rfl,h1,h2⟩;exact⟨rfl,⟨_,h1,hf.remove⟩,h2⟩
theorem anb(K:Kv F B u0 T)(h:aZ B u0 q T S m w)(hf:Fo (ta::tb::g) S)(hx:x∈ta.list)(hy:y∈tb.list)(hc:ta.cnt+tb.cnt<=249):Calls prog 72 #[.pointer (some ⟨q,0,none⟩),aG x,aG y] w λe w'=>e= .returned (.int .i64 0)/\(∃S' t',aZ B u0 q T S' m w'/\Fo (t'::g) S'/\t'.list=ta.list++tb.list)/\Fr F w w':=by
 have m1:ta∈ta::tb::g:=aae;have m2:tb∈ta::tb::g:=acF _ aae;obtain⟨a,b,c,z,_,hz,hp,hl,h1,_,hh,_⟩:=vO hf m1 hx ak;obtain⟨a',b',c',z',_,hz',hp',ZJ,YA,_,hh',_⟩:=vO hf m2 hy ak;have jF:=hf.nd;rw[bF,bF, <-ac8]at jF;refine(ai6 K h hz hp hl hz' hp' ZJ h1 YA hh hh' (acG.1 jF).1 ak (hf.hang _ m1).1 (hf.hang _ m2).1).mono ?_;rintro e w' ⟨rfl,⟨S',s1,s2,s3⟩,h2⟩;exact⟨rfl,⟨S',_,s1,hf.join s2 (Sq.AP _ _) (by rw[Sq.AP];exact s3),Sq.AP _ _⟩,h2⟩
theorem ai8(K:Kv F B u0 T)(h:aZ B u0 q T S m w)(hf:Fo (t::g) S){p r:List Tok}(hx:t.list=p++x::r)(hc:t.cnt<=249):Calls prog 69 #[.pointer (some ⟨q,0,none⟩),aG x] w λe w'=>e= .returned (.int .i64 0)/\(∃S',aZ B u0 q T S' m w'/\((p= []/\Fo (t::g) S')\/(p≠ []/\∃t1 t2,Fo (t1::t2::g) S'/\t1.list=p/\t2.list=x::r)))/\Fr F w w':=by
 obtain⟨a,b,c,z,e,hz,hp,hl,_,_,hh,hn⟩:=vO hf aae (x:=x) (by rw[hx];simp) hc;subst e;have e2:(jX c++a.list)++x::(b.list++nC c)=p++x::r:=by rw[<-hx,jh];simp[Bt.list]
 obtain⟨e3,e4⟩:=Lr e2 (by rw[e2, <-hx];exact hn);by_cases dL:jX c++a.list= []
 ·refine(afI K h hh hn hc dL).mono ?_;rintro e w' ⟨rfl,h1,h2⟩;exact⟨rfl,⟨S,h1, .inl ⟨by rw[<-e3,dL],hf⟩⟩,h2⟩
 ·refine(split_ok K h hh hn hc dL).mono ?_;rintro e w' ⟨rfl,⟨S',s1,s2,s3,s4⟩,h2⟩;have Cb:=qB c a (link .nil x b);have l2:(parts a (link .nil x b) c).2.list=x::r:=by rw[Cb.2,dD, <-e4];simp[Bt.list]
  have l1:(parts a (link .nil x b) c).1.list=p:=by rw[Cb.1,e3]
  exact⟨rfl,⟨S',s1, .inr ⟨by rw[<-e3];exact dL,_,_,hf.split s2 s3 (by rw[l1,l2,hx]) (λe=>dL (by rw[e3, <-l1,e];rfl)) (λe=>by rw[e]at l2;simp[Bt.list]at l2) s4,l1,l2⟩⟩,h2⟩
theorem afO(K:Kv F B u0 T)(h:aZ B u0 q T S m w)(hf:Fo (t::g) S){p r:List Tok}(hx:t.list=p++x::r)(hc:t.cnt<=249):Calls prog 70 #[.pointer (some ⟨q,0,none⟩),aG x] w λe w'=>e= .returned (.int .i64 0)/\(∃S',aZ B u0 q T S' m w'/\((r= []/\Fo (t::g) S')\/(r≠ []/\∃t1 t2,Fo (t1::t2::g) S'/\t1.list=p++ [x]/\t2.list=r)))/\Fr F w w':=by
 obtain⟨a,b,c,z,e,hz,hp,hl,_,_,hh,hn⟩:=vO hf aae (x:=x) (by rw[hx];simp) hc;subst e;have e2:(jX c++a.list)++x::(b.list++nC c)=p++x::r:=by rw[<-hx,jh];simp[Bt.list]
 obtain⟨e3,e4⟩:=Lr e2 (by rw[e2, <-hx];exact hn);by_cases dL:b.list++nC c= []
 ·refine(ab9 K h hh hn hc dL).mono ?_;rintro e w' ⟨rfl,h1,h2⟩;exact⟨rfl,⟨S,h1, .inl ⟨by rw[<-e4,dL],hf⟩⟩,h2⟩
 ·refine(ab8 K h hh hn hc dL).mono ?_;rintro e w' ⟨rfl,⟨S',s1,s2,s3,s4⟩,h2⟩;have Cb:=qB c (link a x .nil) b;have l1:(parts (link a x .nil) b c).1.list=p++ [x]:=by rw[Cb.1,dD, <-e3];simp[Bt.list]
  have l2:(parts (link a x .nil) b c).2.list=r:=by rw[Cb.2,e4]
  exact⟨rfl,⟨S',s1, .inr ⟨by rw[<-e4];exact dL,_,_,hf.split s2 s3 (by rw[l1,l2,hx];simp) (λe=>by rw[e]at l1;simp[Bt.list]at l1) (λe=>dL (by rw[e4, <-l2,e];rfl)) s4,l1,l2⟩⟩,h2⟩
end
section
variable {F:Nat->Prop}{B u0 q tq m:Nat}{T:List bT->Nat->World->Prop}{S:St}{w w':World}
def gK(B u0 q tq:Nat)(T:List bT->Nat->World->Prop)(f:List Bt)(m:Nat)(w:World):Prop:=∃S,DC B u0 q tq T S m w/\Fo f S
section
variable {f g:List Bt}{t ta tb:Bt}{x y:Tok}{e:Ending}
theorem gK.below(K:Kv F B u0 T)(h:gK B u0 q tq T f m w)(hb:Below w.heap.size w w'):gK B u0 q tq T f m w':=by
 obtain⟨S,h1,h2⟩:=h;exact⟨S,h1.below K hb,h2⟩
theorem gK.perm(h:gK B u0 q tq T f m w)(hp:f.Perm g):gK B u0 q tq T g m w:=by
 obtain⟨S,h1,h2⟩:=h;exact⟨S,h1,h2.perm hp⟩
theorem gK.cell(h:gK B u0 q tq T f m w):w.cell? ⟨tq,0,none⟩=some (.pointer (some ⟨q,0,none⟩)):=by
 obtain⟨S,h1,_⟩:=h;exact h1.bk.cell 0
theorem gK.lt(h:gK B u0 q tq T f m w):tq<w.heap.size:=by
 obtain⟨S,h1,_⟩:=h;exact h1.bk.lt
theorem gK.hq(h:gK B u0 q tq T f m w):B<=q/\q<tq:=by
 obtain⟨S,h1,_⟩:=h;exact⟨h1.st.hq,h1.hq⟩
theorem gK.nd(h:gK B u0 q tq T f m w):(toks f).Nodup:=by
 obtain⟨S,_,h2⟩:=h;exact h2.nd
theorem gK.vld(h:gK B u0 q tq T f m w)(hx:x∈toks f):yR x:=by
 obtain⟨S,h1,h2⟩:=h;obtain⟨n,hn⟩:=h2.some_.2 hx;exact(h1.st.ok _ _ hn).1
def TE(F:Nat->Prop)(B u0 q tq:Nat)(T:List bT->Nat->World->Prop)(g:List Bt)(m:Nat)(v:Value)(w:World)(e:Ending)(w':World):Prop:=e= .returned v/\gK B u0 q tq T g m w'/\Fr F w w'
theorem Yc(K:Kv F B u0 T)(h:gK B u0 q tq T f (m+1) w)(hv:yR x)(hx:x ∉ toks f):Calls prog 40 #[.pointer (some ⟨q,0,none⟩),aG x] w (TE F B u0 q tq T (Bt.node .nil x .nil::f) m (.int .i64 0) w):=by
 obtain⟨S,h1,h2⟩:=h;refine(ana K h1.st h2 hv hx).mono ?_;rintro e w' ⟨rfl,⟨S',a1,a2⟩,a3⟩;exact⟨rfl,⟨S',h1.call K a1 a3,a2⟩,a3⟩
theorem U9(K:Kv F B u0 T)(h:gK B u0 q tq T (t::g) m w)(hx:t.list= [x]):Calls prog 71 #[.pointer (some ⟨q,0,none⟩),aG x] w (TE F B u0 q tq T g m (.int .i64 0) w):=by
 obtain⟨S,h1,h2⟩:=h;refine(afN K h1.st h2 hx).mono ?_;rintro e w' ⟨rfl,⟨S',a1,a2⟩,a3⟩;exact⟨rfl,⟨S',h1.call K a1 a3,a2⟩,a3⟩
theorem Zz(K:Kv F B u0 T)(h:gK B u0 q tq T f m w)(ht:t∈f)(hx:x∈t.list)(hc:t.cnt<=249):Calls prog 44 #[.pointer (some ⟨q,0,none⟩),aG x] w (TE F B u0 q tq T f m (.tuple #[.int .i64 (t.list.length:Nat), .int .i64 0]) w):=by
 obtain⟨S,h1,h2⟩:=h;refine(Zy K h1.st h2 ht hx hc).mono ?_;rintro e w' ⟨rfl,a1,a3⟩;exact⟨by rw[Bt.dU],⟨S,h1.call K a1 a3,h2⟩,a3⟩
theorem LC(K:Kv F B u0 T)(h:gK B u0 q tq T f m w)(ht:t∈f){p r:List Tok}(hx:t.list=p++x::r)(hc:t.cnt<=249):Calls prog 35 #[.pointer (some ⟨q,0,none⟩),aG x] w (TE F B u0 q tq T f m (.tuple #[.int .i64 (p.length:Nat), .int .i64 0]) w):=by
 obtain⟨S,h1,h2⟩:=h;refine(am8 K h1.st h2 ht hx hc).mono ?_;rintro e w' ⟨rfl,a1,a3⟩;exact⟨rfl,⟨S,h1.call K a1 a3,h2⟩,a3⟩
theorem afP(K:Kv F B u0 T)(h:gK B u0 q tq T (ta::tb::g) m w)(hx:x∈ta.list)(hy:y∈tb.list)(hc:ta.cnt+tb.cnt<=249):Calls prog 72 #[.pointer (some ⟨q,0,none⟩),aG x,aG y] w λe w'=>∃t',t'.list=ta.list++tb.list/\TE F B u0 q tq T (t'::g) m (.int .i64 0) w e w':=by
 obtain⟨S,h1,h2⟩:=h;refine(anb K h1.st h2 hx hy hc).mono ?_;rintro e w' ⟨rfl,⟨S',t',a1,a2,a4⟩,a3⟩;exact⟨t',a4,rfl,⟨S',h1.call K a1 a3,a2⟩,a3⟩
theorem ZA(K:Kv F B u0 T)(h:gK B u0 q tq T (t::g) m w){p r:List Tok}(hx:t.list=p++x::r)(hc:t.cnt<=249):Calls prog 69 #[.pointer (some ⟨q,0,none⟩),aG x] w λe w'=>∃l,((p= []/\l= [t])\/(p≠ []/\∃t1 t2:Bt,l= [t1,t2]/\t1.list=p/\t2.list=x::r))/\TE F B u0 q tq T (l++g) m (.int .i64 0) w e w':=by
 obtain⟨S,h1,h2⟩:=h;refine(ai8 K h1.st h2 hx hc).mono ?_;rintro e w' ⟨rfl,⟨S',a1,a2⟩,a3⟩;rcases a2 with⟨b1,b2⟩ | ⟨b1,t1,t2,b2,b3,b4⟩
 ·exact⟨[t], .inl ⟨b1,rfl⟩,rfl,⟨S',h1.call K a1 a3,b2⟩,a3⟩
 ·exact⟨[t1,t2], .inr ⟨b1,t1,t2,rfl,b3,b4⟩,rfl,⟨S',h1.call K a1 a3,b2⟩,a3⟩
theorem afQ(K:Kv F B u0 T)(h:gK B u0 q tq T (t::g) m w){p r:List Tok}(hx:t.list=p++x::r)(hc:t.cnt<=249):Calls prog 70 #[.pointer (some ⟨q,0,none⟩),aG x] w λe w'=>∃l,((r= []/\l= [t])\/(r≠ []/\∃t1 t2:Bt,l= [t1,t2]/\t1.list=p++ [x]/\t2.list=r))/\TE F B u0 q tq T (l++g) m (.int .i64 0) w e w':=by
 obtain⟨S,h1,h2⟩:=h;refine(afO K h1.st h2 hx hc).mono ?_;rintro e w' ⟨rfl,⟨S',a1,a2⟩,a3⟩;rcases a2 with⟨b1,b2⟩ | ⟨b1,t1,t2,b2,b3,b4⟩
 ·exact⟨[t], .inl ⟨b1,rfl⟩,rfl,⟨S',h1.call K a1 a3,b2⟩,a3⟩
 ·exact⟨[t1,t2], .inr ⟨b1,t1,t2,rfl,b3,b4⟩,rfl,⟨S',h1.call K a1 a3,b2⟩,a3⟩
theorem ZB(K:Kv F B u0 T)(h:gK B u0 q tq T f m w)(v:Int):Calls prog 43 #[.pointer (some ⟨tq,0,none⟩), .int .i64 v] w (TE F B u0 q tq T f m (.tuple #[.bool (decide (jO v)&& !decide ((v,v)∈toks f)), .int .i64 (if jO v then 0 else 30)]) w):=by
 obtain⟨S,h1,h2⟩:=h;refine(qF K h1 v).mono ?_;rintro e w' ⟨rfl,a1,a3⟩
 have:(S (v,v)).isSome=decide ((v,v)∈toks f):=by
  by_cases hx:(v,v)∈toks f
  ·obtain⟨n,hn⟩:=h2.some_.2 hx;rw[hn,decide_eq_true hx];rfl
  ·rw[h2.none_.2 hx,decide_eq_false hx];rfl
 rw[this];exact⟨rfl,⟨S,a1,h2⟩,a3⟩
theorem Dn{w0:World}(v:Int):∀W,Below w0.heap.size w0 W->Calls prog 41 #[.int .i64 v] W λe w'=>e= .returned (aG (v,v))/\Below w0.heap.size w0 w':=λW hW=>by
 refine(nG v W).mono ?_;rintro e w' ⟨rfl,hb⟩;exact⟨rfl,hW.trans (hb.mono hW.size)⟩
theorem Pz{w0:World}(a b:Int):∀W,Below w0.heap.size w0 W->Calls prog 34 #[.int .i64 a, .int .i64 b] W λe w'=>e= .returned (aG (a,b))/\Below w0.heap.size w0 w':=λW hW=>by
 refine(Jk a b W).mono ?_;rintro e w' ⟨rfl,hb⟩;exact⟨rfl,hW.trans (hb.mono hW.size)⟩
end
theorem afR(K:Kv F B u0 T){f:List Bt}(h:gK B u0 q tq T f (m+1) w){v:Int}(hv:jO v)(hx:(v,v) ∉ toks f):Calls prog 39 #[.pointer (some ⟨tq,0,none⟩), .int .i64 v] w (TE F B u0 q tq T (Bt.node .nil (v,v) .nil::f) m (.int .i64 0) w):=by
 have yI:=ah (ZB K h v);rw[decide_eq_true hv,decide_eq_false hx,if_pos hv]at yI;have HMK:=ah (λW (hW:gK B u0 q tq T f (m+1) W)=>Yc K hW (x:=(v,v)) ⟨hv,hv⟩ hx);have HK:=ah K;clear h K hv hx;go_enter func39,ntmps39
 go_wp2_with fail
 refine aac yI ?_;rintro e w1 ⟨rfl,pI,eH⟩;have pR:=ah pI;have pO:=pI.cell;have lI:=pI.lt;have l9:=ah eH;have Wx:=ah (Dn (w0:=w1) v)
 have HM1:Hid (∀W,Below w1.heap.size w1 W->Calls prog 40 #[.pointer (some ⟨q,0,none⟩),aG (v,v)] W λe w'=>e= .returned (.int .i64 0)/\Hid (TE F B u0 q tq T (Bt.node .nil (v,v) .nil::f) m (.int .i64 0) w (.returned (.int .i64 0)) w')/\w'.cell? ⟨tq,0,none⟩=some (.pointer (some ⟨q,0,none⟩))):=ah λW hW=>by
  refine(HMK.out W (pR.out.below HK hW)).mono ?_;rintro e w' ⟨rfl,a1,a2⟩;exact⟨rfl,ah ⟨rfl,a1,(l9.out.then_ hW).trans a2⟩,a1.cell⟩
 clear pI eH yI HMK;go_wp2_with fail
 go_region_held3 (λW=>W.cell? ⟨tq,0,none⟩=some (.pointer (some ⟨q,0,none⟩))) (first | exact pO | exact MZ | exact Vx)
  (first
  |(go_at_call 41;refine aac (Wx.out _ (by first | exact aU | exact aU.drew)) ?_;rintro e w2 ⟨rfl,bK⟩;have MZ:w2.cell? ⟨tq,0,none⟩=some (.pointer (some ⟨q,0,none⟩)):=(bK.cell (p:=⟨tq,0,none⟩) lI).trans pO)
  |(go_at_call 40;refine aac (HM1.out _ (by first | exact bK | exact bK.drew)) ?_;rintro e w3 ⟨rfl,HE3,Vx⟩))
 go_wp2;go_ret;exact HE3
theorem afS(K:Kv F B u0 T){t:Bt}{g:List Bt}(h:gK B u0 q tq T (t::g) m w){v:Int}(hv:jO v){p r:List Tok}(hx:t.list=p++(v,v)::r)(hc:t.cnt<=249):Calls prog 39 #[.pointer (some ⟨tq,0,none⟩), .int .i64 v] w λe w'=>∃t':Bt,t'.list=(v,v)::(r++p)/\TE F B u0 q tq T (t'::g) m (.int .i64 0) w e w':=by
 have hm:(v,v)∈t.list:=by rw[hx];simp
 have hmf:(v,v)∈toks (t::g):=by rw[bF];exact acM _ hm
 have hi:0<t.list.length:=by rw[hx];simp;omega
 have jF:t.list.Nodup:=by have:=h.nd;rw[bF]at this;exact(acG.1 this).1
 have yI:=ah (ZB K h v);rw[decide_eq_true hv,decide_eq_true hmf,if_pos hv]at yI;have HAT:=ah (λS1 W (hs:aZ B u0 q T S1 m W) (hp:Fo (t::g) S1)=>arI K hs hp aae hm hc hi);have HSP:=ah (λW (hW:gK B u0 q tq T (t::g) m W)=>ZA K hW hx hc);obtain⟨k1,vg⟩:=aJ (t.list[0]);rw[<-vg]at HAT
 have PX:(p= []/\k1=(v,v))\/(p≠ []/\k1∈p/\k1≠(v,v)):=by
  cases p with
  |nil=>exact .inl ⟨rfl,by rw[vg];simp[hx]⟩
  |cons j p=>
   have e:k1=j:=by rw[vg];simp[hx]
   subst e;refine .inr ⟨by simp,by simp,λe=> ?_⟩;rw[hx,e]at jF;simp at jF
 have HK0:=ah PX;have HJN:=ah (λW (t1 t2:Bt) (hW:gK B u0 q tq T (t2::t1::g) m W) (h1:(v,v)∈t2.list) (h2:k1∈t1.list) (h3:t2.cnt+t1.cnt<=249)=>afP K hW h1 h2 h3);have ZX:Hid (t.list.length<=249):=ah (by rw[<-Bt.dU];exact hc);have HX:=ah hx;obtain⟨f,Ry⟩:=aJ (t::g);rw[<-Ry]at yI HAT HSP;have HFG:=ah Ry;have rF:=h.hq.1;have I5:=h.hq.2;have HK:=ah K;have aQ:Hid (∀k,F k->k<B):=ah K.low;clear h K hv hx hm hmf hi jF vg PX Ry hc;go_enter func39,ntmps39
 go_wp2_with fail
 refine aac yI ?_;rintro e w1 ⟨rfl,pI,eH⟩;have pR:=ah pI;have jy:Hid (aO w1 tq 75 #[.pointer (some ⟨q,0,none⟩)]):=ah (by obtain⟨S1,h1,_⟩:=pI;exact h1.bk);have l9:=ah eH;have gI:=eH.size;have arn:=pI.lt;obtain⟨S0,hs0,Wi⟩:=pI;have MO:=ah (ahr hs0.st Wi);clear eH hs0 Wi yI;go_wp2_with fail
 refine aP (λu=>⟨#[_,_,_,_,_,_,u 12,u 10,_,_,_,_,_,_,_,_,_,_,_,_,_,_,_,_,_,_,u 7,u 0,u 1,u 2,u 3,u 4,u 5,u 6,u 8,u 9,_,_,_,_,_,_,_,_,_,_,_,_,_,_,_,_,_,_,_,_,_,_,_,_,_,_,_],_⟩)
  [bf tq 0,
   bf tq 0,
   bf tq 0,
   bf q 0,
   aF (.int .i64 (v)),
   aF (aG ((v,v))),
   aF (.tuple #[aG (k1), .int .i64 (0)]),
   aF (.tuple #[aG (k1), .int .i64 (0)]),
   aF (aG (k1)),
   aF (.int .i64 (0)),
   Fl.box _ 71 (aI (0,0)),
   Fl.fill _ 10 71 (aI (k1)),
   aF (.int .i64 (0))]
  F [5,6] (λj W=>dG B u0 q T (m) (λS1=>Fo f S1) W) aV aV [] rfl aH (by simp<;>omega) (λk hk=>⟨by have:=aQ.out k hk;omega,by simp⟩) ⟨λi=>match i with | 12=> .int .i64 0 | _=>undef,rfl⟩ (⟨S0,MO.out.1.below HK aU.drew,MO.out.2⟩) ?_ ?_ ?_
 ·intro i o hi ho u W hf hold aj jP;have aW:=fw aQ hf jy
  match i,ho with
  |0,ho|4,ho=>exact sv ho (bg rfl rfl)
  |1,ho=>exact sv ho (jK rfl (aj 0 rfl))
  |2,ho=>exact sv ho (lU rfl (aj 1 rfl))
  |3,ho=>exact sv ho (lT rfl (aj 2 rfl) (aW.cell 0))
  |5,ho|6,ho=>
   exact absurd aH hi
  |7,ho=>exact sv ho (bg rfl (aj 6 rfl))
  |8,ho=>exact sv ho (rQ rfl (aj 7 rfl))
  |9,ho=>exact sv ho (rU rfl (aj 7 rfl))
  |10,ho=>
   obtain rfl:=aA ho;exact aY.mem (Px rfl) rfl rfl rfl ⟨_,rfl⟩ (.inl rfl) (λ_ h=>dG.below HK h (aU.alloc aK _))
  |11,ho=>
   obtain rfl:=aA ho;obtain⟨iR,gI⟩:=jP 10 rfl;have jd:=gI _ _ rfl;obtain⟨bz,jw⟩:=aj 10 rfl;rw[jw]at iR jd;change _<=bz at iR;change aO W bz _ _ at jd;exact aY.oh (ji rfl jw (aj 8 rfl) jd) rfl rfl rfl jw iR (λ_ dK=>(λ_ h=>dG.far HK h jd ak dK ay ay ay ay))
  |12,ho=>exact sv ho (jo rfl (aj 9 rfl))
  |n+13,ho=>exact absurd ho aH
 ·intro t i o ht ho u W hf bG aj;have aW:=fw aQ hf jy
  match t,ht with
  |0,ht=>
   have ht:=aA ht;subst ht;obtain rfl:=aA ho;refine⟨aB rfl,Does.call (dH rD rfl (aj 4 rfl)) ?_⟩;obtain⟨S1,hs,hp⟩:=bG;refine aac (nG v W) ?_;rintro e w' ⟨rfl,hb⟩;exact⟨_,rfl,rfl,rfl, .of_below hb,S1,hs.below HK hb,hp⟩
  |1,ht=>
   have ht:=aA ht;subst ht;obtain rfl:=aA ho;refine⟨aB rfl,Does.call (lQ Zx rfl (aj 3 rfl) (aj 5 rfl) rfl) ?_⟩;obtain⟨S1,hs,hp⟩:=bG;refine aac (HAT.out S1 W hs hp) ?_;rintro e w' ⟨rfl,h1,h2⟩;exact⟨_,rfl,rfl,rfl,h2,S1,h1,hp⟩
  |n+2,ht=>exact absurd ht aH
 ·intro u W hf bG au;have aW:=fw aQ hf jy;have e0:=au.q 0;have e1:=au.q 1;have e2:=au.q 2;have e3:=au.q 3;have e4:=au.q 4;have e5:=au.q 5;have e6:=au.q 6;have e7:=au.q 7;have e8:=au.q 8;have e9:=au.q 9;obtain⟨b10,e10⟩:∃b,u 10= .pointer (some ⟨b,0,none⟩):=au.p 10 ay trivial;have lS:=(au.p 11 ay trivial);change _<=mX (u 10)/\aO W (mX (u 10)) _ _ at lS;rw[e10]at lS;have anc:=lS.1;change _<=b10 at anc
  replace lS:=lS.2
  change aO W b10 _ _ at lS;have e12:=au.q 12;simp only[e0,e1,e2,e3,e4,e5,e6,e7,e8,e9,e10,e12];obtain⟨S1,hs,hp⟩:dG B u0 q T m (λS1=>Fo f S1) W:=bG;have qQ:Hid (gK B u0 q tq T f m W):=ah ⟨S1,⟨hs,hf.nil_.blk jy (λa=>by have:=aQ.out _ a;omega),I5⟩,hp⟩;have kL:=ah (l9.out.trans hf.nil_);have LD:=ah lS;obtain⟨w2,yY⟩:=aJ (W);rw[<-yY]at qQ kL LD ⊢;have Rf:Hid (aO w2 tq 75 #[.pointer (some ⟨q,0,none⟩)]):=ah (by obtain⟨S1,h1,_⟩:=qQ.out;exact h1.bk);have yj:=kL.out.size;clear au hf hs hp e0 e1 e2 e3 e4 e5 e6 e7 e8 e9 e10 e12 aW yY pR l9 jy lS MO u W;have HBX:=LD;obtain⟨S2,mW,Gu⟩:=qQ.out;have uz:=ah (ahr mW.st Gu);have Nc:=LD.out.lt;clear mW Gu;go_wp2_with fail
  refine aP (λu=>⟨#[_,_,_,_,_,_,_,_,_,_,_,_,_,_,_,_,_,_,_,_,_,_,_,_,_,_,_,_,_,_,_,_,_,_,_,_,u 0,u 1,u 2,u 3,u 4,u 5,u 6,u 7,_,_,_,_,_,_,_,_,_,_,_,_,_,_,_,_,_,_,_],_⟩)
   [aF (.int .i64 (0)),
    aF (.bool (false)),
    aF (.bool (false)),
    aF (aG (k1)),
    aF (.int .i64 (v)),
    aF (aG ((v,v))),
    aF (.bool (decide (k1=(v,v)))),
    aF (.bool (decide (k1=(v,v))))]
   F [5] (λj W=>dG B u0 q T (m) (λS1=>Fo f S1) W) aV aV [] rfl aH (by simp<;>omega) (λk hk=>⟨by have:=aQ.out k hk;omega,by simp⟩) ⟨λ_=>undef,rfl⟩ (⟨S2,uz.out.1.below HK aU.drew,uz.out.2⟩) ?_ ?_ ?_
  ·intro i o hi ho u W hf hold aj jP;have aW:=fw aQ hf HBX
   match i,ho with
   |0,ho=>exact sv ho (bg rfl rfl)
   |1,ho=>exact sv ho (o7 rfl (aj 0 rfl) rfl)
   |2,ho=>exact sv ho (bg rfl (aj 1 rfl))
   |3,ho=>
    obtain rfl:=aA ho;exact aY.nS ((bI rfl (aT (v:=u 2) rfl (aj 2 rfl))).trans rfl) (aC rfl rfl (aW.cell 0) (aW.cell 1)) rfl rfl rfl
   |4,ho=>
    obtain rfl:=aA ho;exact aY.nS ((bI rfl (aT (v:=u 2) rfl (aj 2 rfl))).trans rfl) (bg rfl rfl) rfl rfl rfl
   |5,ho=>
    exact absurd aH hi
   |6,ho=>
    obtain rfl:=aA ho;exact aY.nS ((bI rfl (aT (v:=u 2) rfl (aj 2 rfl))).trans rfl) (iI rfl (aj 3 rfl) (aj 5 rfl)) rfl rfl rfl
   |7,ho=>exact sv ho (mM rfl (aj 2 rfl) (aj 6 rfl))
   |n+8,ho=>exact absurd ho aH
  ·intro t i o ht ho u W hf bG aj;have aW:=fw aQ hf HBX
   match t,ht with
   |0,ht=>
    have ht:=aA ht;subst ht;obtain rfl:=aA ho;refine⟨((bI rfl (aT (v:=u 2) rfl (aj 2 rfl))).trans rfl),Does.call (dH rD rfl (aj 4 rfl)) ?_⟩;obtain⟨S1,hs,hp⟩:=bG;refine aac (nG v W) ?_;rintro e w' ⟨rfl,hb⟩;exact⟨_,rfl,rfl,rfl, .of_below hb,S1,hs.below HK hb,hp⟩
   |n+1,ht=>exact absurd ht aH
  ·intro u W hf bG au;have aW:=fw aQ hf HBX;have e0:=au.q 0;have e1:=au.q 1;have e2:=au.q 2;have e3:=au.q 3;have e4:=au.q 4;have e5:=au.q 5;have e6:=au.q 6;have e7:=au.q 7;simp only[e0,e1,e2,e3,e4,e5,e6,e7];obtain⟨S1,hs,hp⟩:dG B u0 q T m (λS1=>Fo f S1) W:=bG;have vZ:Hid (gK B u0 q tq T f m W):=ah ⟨S1,⟨hs,hf.nil_.blk Rf (λa=>by have:=aQ.out _ a;omega),I5⟩,hp⟩;have sD:=ah (kL.out.trans hf.nil_);have afT:=ah (hf.nil_.blk LD (λa=>by have:=aQ.out _ a;omega));obtain⟨w3,Xu⟩:=aJ (W);rw[<-Xu]at vZ sD afT ⊢;have aCd:Hid (aO w3 tq 75 #[.pointer (some ⟨q,0,none⟩)]):=ah (by obtain⟨S1,h1,_⟩:=vZ.out;exact h1.bk);have IZ:=sD.out.size;clear au hf hs hp e0 e1 e2 e3 e4 e5 e6 e7 aW Xu qQ kL Rf HBX LD uz u W;rcases HK0.out with⟨hpn,VY⟩ | ⟨hpn,hkp,VY⟩
   ·have HE:Hid (∃t':Bt,t'.list=(v,v)::(r++p)/\TE F B u0 q tq T (t'::g) m (.int .i64 0) w (.returned (.int .i64 0)) w3):=ah ⟨t,by rw[HX.out,hpn];simp,rfl,HFG.out ▸ vZ.out,sD⟩;have hd:decide (k1=(v,v))=true:=decide_eq_true VY;generalize decide (k1=(v,v))=bd at hd ⊢;subst hd;clear hpn VY;go_wp2;go_ret;exact HE
   ·have hd:decide (k1=(v,v))=false:=decide_eq_false VY;generalize decide (k1=(v,v))=bd at hd ⊢;subst hd;have HKP:=ah hkp;have HPN:=ah hpn;have pO:=vZ.out.cell;have lI:=vZ.out.lt;have PX:w3.cell? ⟨b10,0,none⟩=some (.int .i64 k1.1):=afT.out.cell 0;have vg:w3.cell? ⟨b10,1,none⟩=some (.int .i64 k1.2):=afT.out.cell 1;have aCe:=afT.out.lt;have Wx:=ah (Dn (w0:=w3) v)
    have HM1:Hid (∀W,Below w3.heap.size w3 W->Calls prog 69 #[.pointer (some ⟨q,0,none⟩),aG (v,v)] W λe w'=>e= .returned (.int .i64 0)/\Hid (∃t1 t2:Bt,t1.list=p/\t2.list=(v,v)::r/\gK B u0 q tq T (t1::t2::g) m w')/\Hid (Fr F w w')/\Hid (Fr F w3 w')/\w'.cell? ⟨tq,0,none⟩=some (.pointer (some ⟨q,0,none⟩))):=ah λW hW=>by
     refine(HSP.out W (vZ.out.below HK hW)).mono ?_;rintro e w' ⟨l,hl,rfl,a1,a2⟩;refine⟨rfl,ah ?_,ah ((sD.out.then_ hW).trans a2),ah ((Fr.of_below hW).trans a2),a1.cell⟩;rcases hl with⟨e,_⟩ | ⟨_,t1,t2,rfl,h1,h2⟩
     ·exact absurd e HPN
     ·exact⟨t1,t2,h1,h2,a1⟩
    clear hkp hpn VY HSP HAT;go_wp2_with fail
    go_region_held3 (λW=>W.cell? ⟨tq,0,none⟩=some (.pointer (some ⟨q,0,none⟩))) (first | exact pO | exact hS4 | exact hS5)
      (first
      |(go_at_call 41;refine aac (Wx.out _ (by first | exact aU | exact aU.drew)) ?_;rintro e w4 ⟨rfl,iC⟩;have hS4:w4.cell? ⟨tq,0,none⟩=some (.pointer (some ⟨q,0,none⟩)):=(iC.cell (p:=⟨tq,0,none⟩) lI).trans pO)
      |(go_at_call 69;refine aac (HM1.out _ (by first | exact iC | exact iC.drew)) ?_;rintro e w5 ⟨rfl,nX,kE,HG5,hS5⟩))
    clear pO hS4 iC Wx HM1 PX vg vZ sD;obtain⟨t1,t2,h1,h2,ht5⟩:=nX.out;have PV:=HG5.out.size;have EG:=HG5.out.blk afT (λa=>by have:=aQ.out _ a;omega);have PX:w5.cell? ⟨b10,0,none⟩=some (.int .i64 k1.1):=EG.cell 0;have vg:w5.cell? ⟨b10,1,none⟩=some (.int .i64 k1.2):=EG.cell 1;have arJ:=EG.lt;have awF:=ht5.lt;have pO:w5.cell? ⟨tq,0,none⟩=some (.pointer (some ⟨q,0,none⟩))/\w5.cell? ⟨b10,0,none⟩=some (.int .i64 k1.1)/\w5.cell? ⟨b10,1,none⟩=some (.int .i64 k1.2):=⟨hS5,PX,vg⟩;have Wx:=ah (Dn (w0:=w5) v)
    have VU:Hid (∀W,Below w5.heap.size w5 W->Calls prog 72 #[.pointer (some ⟨q,0,none⟩),aG (v,v),aG k1] W λe w'=>e= .returned (.int .i64 0)/\Hid (∃t':Bt,t'.list=(v,v)::(r++p)/\TE F B u0 q tq T (t'::g) m (.int .i64 0) w (.returned (.int .i64 0)) w')/\(w'.cell? ⟨tq,0,none⟩=some (.pointer (some ⟨q,0,none⟩))/\w'.cell? ⟨b10,0,none⟩=some (.int .i64 k1.1)/\w'.cell? ⟨b10,1,none⟩=some (.int .i64 k1.2))):=ah λW hW=>by
     have hlen:t2.cnt+t1.cnt<=249:=by
      have:=ZX.out;rw[HX.out]at this;rw[Bt.dU,Bt.dU,h1,h2];simp at this ⊢;omega
     refine(HJN.out W t1 t2 ((ht5.below HK hW).perm (ahq _ _ _)) (by rw[h2];simp) (by rw[h1];exact HKP) hlen).mono ?_;rintro e w' ⟨t',hl,rfl,a1,a2⟩;have E8:=a2.blk ((Fr.of_below hW:Fr F w5 W).blk EG (λa=>by have:=aQ.out _ a;omega)) (λa=>by have:=aQ.out _ a;omega);exact⟨rfl,ah ⟨t',by rw[hl,h1,h2];rfl,rfl,a1,(kE.out.then_ hW).trans a2⟩,a1.cell,E8.cell 0,E8.cell 1⟩
    have EU:=ah EG;clear h1 h2 ht5 EG HJN;go_wp2_with fail
    go_region_held3 (λW=>W.cell? ⟨tq,0,none⟩=some (.pointer (some ⟨q,0,none⟩))/\W.cell? ⟨b10,0,none⟩=some (.int .i64 k1.1)/\W.cell? ⟨b10,1,none⟩=some (.int .i64 k1.2)) (first | exact pO | exact hS6 | exact hS7)
      (first
      |(go_at_call 41;refine aac (Wx.out _ (by first | exact aU | exact aU.drew)) ?_;rintro e w6 ⟨rfl,BR⟩;have hS6:w6.cell? ⟨tq,0,none⟩=some (.pointer (some ⟨q,0,none⟩))/\w6.cell? ⟨b10,0,none⟩=some (.int .i64 k1.1)/\w6.cell? ⟨b10,1,none⟩=some (.int .i64 k1.2):=⟨(BR.cell (p:=⟨tq,0,none⟩) awF).trans hS5,(BR.cell (p:=⟨b10,0,none⟩) arJ).trans PX,(BR.cell (p:=⟨b10,1,none⟩) arJ).trans vg⟩)
      |(go_at_call 72;refine aac (VU.out _ (by first | exact BR | exact BR.drew)) ?_;rintro e w7 ⟨rfl,HE7,hS7⟩))
    go_wp2;go_ret;exact HE7
end
section
variable {F:Nat->Prop}{B u0 q tq m:Nat}{T:List bT->Nat->World->Prop}{S:St}{w w':World}
theorem afU(W:World):(sizeOf (prog.elem 57)).run prog W= .ok 2 W:=by kernel_rfl
theorem ai9:prog.underlying 57=some (.slice (prog.elem 57)):=by kernel_rfl
theorem arK(g n:Nat)(hn:1<n)(W:World):(Instr.slice 57 (.slice (some ⟨g,0,none⟩) n n) (some (.int .i64 1)) none none).run prog W= .ok (.slice (some ⟨g,2,none⟩) (n-1) (n-1)) W:=by
 rw[run_slice_l W 57 (some ⟨g,0,none⟩) n n ai9 .i64 1 ak ak,afU];simp only[Result.andThen_ok,sliced];have h1:¬n=1:=by omega
 simp[h1,Addr.add_lit]
def xZ:List Tok->List Bt->Prop
 | [], []=>True
 |k::ks,t::ts=>k∈t.list/\xZ ks ts
 |_,_=>False
theorem xZ.len:∀ {ks:List Tok} {ts:List Bt},xZ ks ts->ks.length=ts.length
 | [], [],_=>rfl
 |_::ks,_::ts,h=>by simp[xZ.len h.2]
theorem xZ.at_:∀ {ks:List Tok} {ts:List Bt},xZ ks ts->∀ {i:Nat} (h1:i<ks.length) (h2:i<ts.length),ks[i]∈ts[i].list
 |_::_,_::_,h,0,_,_=>h.1
 |_::ks,_::ts,h,i+1,h1,h2=>xZ.at_ h.2 (by simpa using h1) (by simpa using h2)
def lists(ts:List Bt):List Tok:=(ts.map Bt.list).flatten
theorem PD(K:Kv F B u0 T){t0:Bt}{ts g:List Bt}{k0:Tok}{ks:List Tok}(h:gK B u0 q tq T (t0::(ts++g)) m w)(h0:k0∈t0.list)(hk:xZ ks ts)(dL:ks≠ [])(hc:t0.list.length+(lists ts).length<=249){gb:Nat}(hB:aO w gb 71 (tokE.cells (k0::ks)).toArray)(hg:B<=gb)(hl:ks.length<=100):
  Calls prog 37 #[.pointer (some ⟨tq,0,none⟩), .slice (some ⟨gb,0,none⟩) (ks.length+1) (ks.length+1)] w λe w'=>∃t':Bt,t'.list=t0.list++lists ts/\TE F B u0 q tq T (t'::g) m (.int .i64 0) w e w':=by
 have Nh:1<ks.length+1:=by
  cases ks with
  |nil=>exact absurd rfl dL
  |cons k ks=>simp
 have hcut:=arK gb (ks.length+1) Nh w;have RG:=hk.len;have HB:=ah hB;have HIN:=ah hk;have HH:=ah h;have HC:=ah hc;have HL:=ah RG;have H0:=ah h0;have BP:=hB.lt;have HK:=ah K;have aQ:Hid (∀k,F k->k<B):=ah K.low;rw[show ks.length+1-1=ks.length by omega]at hcut;clear h h0 hk hc hB K RG;go_enter func37,ntmps37
 go_wp2
 go_loopw [11] (λi wr=>∃ (j:Nat) (tj:Bt),j<=ks.length/\i= .int .i64 (j:Nat)/\Hid (tj.list=t0.list++lists (ts.take j))/\Hid (gK B u0 q tq T (tj::(ts.drop j++g)) m wr)/\Hid (Fr F w wr)) (λi _=>ks.length-(intOf i).toNat)
 case atStart=>exact⟨0,t0,ac4 _,rfl,ah (by simp[lists]),ah HH,ah aX⟩
 case round=>
  obtain⟨j,tj,hj,rfl,HTL,HT,HF⟩:=hrel;have Oe:=HF.out.size;by_cases hlt:j<ks.length
  ·have uo:=HF.out.blk HB (λa=>by have:=aQ.out _ a;omega);obtain⟨c0,c1⟩:=xX uo (k:=j+1) (by simp;omega);obtain⟨d0,d1⟩:=xX uo (k:=0) aH;have hjt:j<ts.length:=by rw[<-HL.out];exact hlt
   have jk:=HIN.out.at_ hlt hjt;have PW:ts.drop j=ts[j]::ts.drop (j+1):=List.drop_eq_getElem_cons hjt;have VA:ts.take (j+1)=ts.take j++ [ts[j]]:=List.take_succ_eq_append_getElem hjt
   have hlen:(lists ts).length=(lists (ts.take j)).length+(ts[j].list.length+(lists (ts.drop (j+1))).length):=by
    have e:lists ts=lists (ts.take j)++(ts[j].list++lists (ts.drop (j+1))):=by
     have:ts=ts.take j++(ts[j]::ts.drop (j+1)):=by rw[<-PW,List.take_append_drop]
     have e3:lists ts=lists (ts.take j++(ts[j]::ts.drop (j+1))):=by rw[<-this]
     rw[e3];unfold lists;rw[adt,List.flatten_append,List.map_cons,agO]
    rw[e,aag,aag]
   obtain⟨tx,pU⟩:=aJ (ts[j]);obtain⟨kx,hkx⟩:=aJ (ks[j]);simp only[List.getElem_cons_succ,List.getElem_cons_zero]at c0 c1 d0 d1;rw[<-hkx]at c0 c1 jk;rw[<-pU]at jk PW VA hlen;rw[show(j+1)*2=2+j*2 by omega]at c0 c1;rw[show 0*2=0 by rfl]at d0 d1;have hgw:gb<wr.heap.size:=uo.lt;have qg:(j:Int)<(ks.length:Int):=by omega
   have vw:=HT.out.below HK ((aai _ wr).alloc aK (.cells (aI kx) 71));have lW:=uo.alloc (.cells (aI kx) 71);have hX4:=aO.new wr 71 (aI kx);have sW:=HF.out.then_ ((aai _ wr).alloc aK (.cells (aI kx) 71));have e0:(k0::ks)[0]'aH=k0:=rfl;obtain⟨w4,vU⟩:=aJ (wr.alloc (.cells (aI kx) 71));rw[<-vU]at vw lW hX4 sW;have b0:w4.cell? ⟨gb,0,none⟩=some (.int .i64 k0.1):=(xX lW (k:=0) aH).1;have b1:w4.cell? ⟨gb,1,none⟩=some (.int .i64 k0.2):=(xX lW (k:=0) aH).2;have pO:w4.cell? ⟨tq,0,none⟩=some (.pointer (some ⟨q,0,none⟩))/\w4.cell? ⟨gb,0,none⟩=some (.int .i64 k0.1)/\w4.cell? ⟨gb,1,none⟩=some (.int .i64 k0.2)/\w4.cell? ⟨wr.heap.size,0,none⟩=some (.int .i64 kx.1)/\w4.cell? ⟨wr.heap.size,1,none⟩=some (.int .i64 kx.2):=⟨vw.cell,b0,b1,hX4.cell 0,hX4.cell 1⟩;have lI:=vw.lt;have aCf:=lW.lt;have awG:=hX4.lt;have Wx:Hid (True):=ah trivial
   have VU:Hid (∀W,Below w4.heap.size w4 W->Calls prog 72 #[.pointer (some ⟨q,0,none⟩),aG k0,aG kx] W λe w'=>∃t',e= .returned (.int .i64 0)/\Hid (t'.list=t0.list++lists (ts.take (j+1))/\gK B u0 q tq T (t'::(ts.drop (j+1)++g)) m w'/\Fr F w w')/\w'.cell? ⟨tq,0,none⟩=some (.pointer (some ⟨q,0,none⟩))/\w'.cell? ⟨gb,0,none⟩=some (.int .i64 k0.1)/\w'.cell? ⟨gb,1,none⟩=some (.int .i64 k0.2)/\w'.cell? ⟨wr.heap.size,0,none⟩=some (.int .i64 kx.1)/\w'.cell? ⟨wr.heap.size,1,none⟩=some (.int .i64 kx.2)):=ah λW hW=>by
    have hT:=vw.below HK hW;rw[PW]at hT;have ane:=HTL.out;refine(afP HK hT (by rw[ane];exact acM _ H0) jk (by rw[Bt.dU,Bt.dU,ane];have:=HC.out;simp;omega)).mono ?_;rintro e w' ⟨t',ZJ,rfl,a1,a2⟩;have wo:Fr F w4 w':=(Fr.of_below hW).trans a2;have E8:=wo.blk lW (λa=>by have:=aQ.out _ a;omega);have hXW:=wo.blk hX4 (λa=>by have:=aQ.out _ a;omega);refine⟨t',rfl,ah ⟨?_,a1,sW.trans wo⟩,a1.cell,(xX E8 (k:=0) aH).1,(xX E8 (k:=0) aH).2,hXW.cell 0,hXW.cell 1⟩;rw[ZJ,ane,VA];simp[lists]
   clear uo vw lW hX4 sW jk PW VA hlen pU hkx e0 b0 b1 HT HTL HF Wx d0 d1;go_wp2_with fail
   rw[show wr.alloc (.cells #[.int .i64 kx.1, .int .i64 kx.2] 71)=w4 from vU.symm];clear vU
   go_region_held3 (λW=>W.cell? ⟨tq,0,none⟩=some (.pointer (some ⟨q,0,none⟩))/\W.cell? ⟨gb,0,none⟩=some (.int .i64 k0.1)/\W.cell? ⟨gb,1,none⟩=some (.int .i64 k0.2)/\W.cell? ⟨wr.heap.size,0,none⟩=some (.int .i64 kx.1)/\W.cell? ⟨wr.heap.size,1,none⟩=some (.int .i64 kx.2)) (first | exact pO | exact hS5)
     (first
     |(go_at_call 72;refine aac (VU.out _ (by first | exact aU | exact aU.drew)) ?_;rintro e w5 ⟨t',rfl,nX,hS5⟩))
   go_wp2
   go_roundw
   case rel=>exact⟨j+1,t',by omega,by go_num,ah nX.out.1,ah nX.out.2.1,ah nX.out.2.2⟩
   case measure=>simp[intOf];omega
  ·obtain rfl:j=ks.length:=by omega
   have HE:Hid (∃t':Bt,t'.list=t0.list++lists ts/\TE F B u0 q tq T (t'::g) m (.int .i64 0) w (.returned (.int .i64 0)) wr):=ah ⟨tj,by have:=HTL.out;rw[HL.out,List.take_length]at this;exact this,rfl,by have:=HT.out;rw[HL.out,List.drop_length]at this;exact this,HF⟩;clear HT HTL HF hlt;go_wp2;go_ret;exact HE
def WA(o:Option Tok)(v:Value)(base:Nat)(w:World):Prop:=match o with
 |none=>v= .slice none 0 0
 |some x=>∃b,base<=b/\v= .slice (some ⟨b,0,none⟩) 1 1/\aO w b 71 (aI x)
theorem WA.fr{o:Option Tok}{v:Value}{base:Nat}(h:WA o v base w)(hf:Fr F w w')(hF:∀k,F k->k<base):WA o v base w':=by
 cases o with
 |none=>exact h
 |some x=>
  obtain⟨b,h1,h2,h3⟩:=h;exact⟨b,h1,h2,hf.blk h3 λa=>by have:=hF b a;omega⟩
theorem WA.lower{o:Option Tok}{v:Value}{base base':Nat}(h:WA o v base w)(hb:base'<=base):WA o v base' w:=by
 cases o with
 |none=>exact h
 |some x=>
  obtain⟨b,h1,h2,h3⟩:=h;exact⟨b,acN hb h1,h2,h3⟩
theorem LG(K:Kv F B u0 T){f:List Bt}(h:gK B u0 q tq T f m w){k:Tok}{i n:Int}(hi:i<0\/n<=i):Calls prog 68 #[.pointer (some ⟨tq,0,none⟩),aG k, .int .i64 i, .int .i64 n] w (TE F B u0 q tq T f m (.tuple #[.slice none 0 0, .int .i64 0]) w):=by
 have hb:=(aai w.heap.size w).alloc aK (.cells (aI k) 71);have HE:Hid (TE F B u0 q tq T f m (.tuple #[.slice none 0 0, .int .i64 0]) w (.returned (.tuple #[.slice none 0 0, .int .i64 0])) _):=ah ⟨rfl,h.below K hb, .of_below hb⟩;clear hb h K;by_cases h1:i<0
 ·go_enter func68,ntmps68
  go_wp2;go_ret2;exact HE
 ·have h2:n<=i:=hi.resolve_left h1;have h3:0<=i:=by omega
  clear hi h1;go_enter func68,ntmps68
  go_wp2;go_ret2;exact HE
theorem PE(K:Kv F B u0 T){f:List Bt}{t:Bt}(h:gK B u0 q tq T f m w)(ht:t∈f){k:Tok}(hk:k∈t.list)(hc:t.cnt<=249){i n:Nat}(hi:i<t.list.length)(hn:n=t.list.length):Calls prog 68 #[.pointer (some ⟨tq,0,none⟩),aG k, .int .i64 (i:Nat), .int .i64 (n:Nat)] w λe w'=>∃v,WA (some t.list[i]) v w.heap.size w'/\TE F B u0 q tq T f m (.tuple #[v, .int .i64 0]) w e w':=by
 have HAT:=ah (λS1 W (hs:aZ B u0 q T S1 m W) (hp:Fo f S1)=>arI K hs hp ht hk hc hi);obtain⟨kx,hkx⟩:=aJ (t.list[i]);rw[<-hkx]at HAT ⊢;have N9:¬ (i:Int)<0:=by omega
 have hi2:(i:Int)<(n:Int):=by omega
 have hi3:¬ (n:Int)<=(i:Int):=by omega
 have hi4:decide (n<=i)=false:=decide_eq_false ak;have hi5:decide ((i:Int)<0)=false:=decide_eq_false ak;have hb:=(aai w.heap.size w).alloc aK (.cells (aI k) 71);have pI:=h.below K hb;have l9:Hid (Fr F w _):=ah (Fr.of_below (S:=F) hb);have Jt:=ah (aO.new w 71 (aI k));obtain⟨w1,uw⟩:=aJ (w.alloc (.cells (aI k) 71));rw[<-uw]at pI l9 Jt;have pR:=ah pI;have jy:Hid (aO w1 tq 75 #[.pointer (some ⟨q,0,none⟩)]):=ah (by obtain⟨S1,h1,_⟩:=pI;exact h1.bk);have gI:=l9.out.size;have rF:=h.hq.1;have I5:=h.hq.2;have lI:=h.lt;obtain⟨S0,hs0,Wi⟩:=pI;have MO:=ah (ahr hs0.st Wi);have HK:=ah K;have aQ:Hid (∀k,F k->k<B):=ah K.low;clear hb h ht hk hc hi hn hkx hs0 Wi K;go_enter func68,ntmps68
 go_wp2_with fail
 rw[show w.alloc (.cells #[.int .i64 k.1, .int .i64 k.2] 71)=w1 from uw.symm];clear uw
 refine aP (λu=>⟨#[_,_,_,_,_,_,_,_,_,_,u 10,u 12,_,_,_,_,_,_,_,u 7,u 0,u 1,u 2,u 3,u 4,u 5,u 6,u 8,u 9,_,_,_],_⟩)
  [bf tq 0,
   bf tq 0,
   bf tq 0,
   bf q 0,
   aF (aG (k)),
   aF (.int .i64 ((i:Nat))),
   aF (.tuple #[aG (kx), .int .i64 (0)]),
   aF (.tuple #[aG (kx), .int .i64 (0)]),
   aF (aG (kx)),
   aF (.int .i64 (0)),
   Fl.box _ 71 (aI (0,0)),
   Fl.fill _ 10 71 (aI (kx)),
   aF (.int .i64 (0))]
  F [6] (λj W=>dG B u0 q T (m) (λS1=>Fo f S1) W) aV aV [] rfl aH (by simp<;>omega) (λk hk=>⟨by have:=aQ.out k hk;omega,by simp⟩) ⟨λ_=>undef,rfl⟩ (⟨S0,MO.out.1.below HK aU.drew,MO.out.2⟩) ?_ ?_ ?_
 ·intro i o hi ho u W hf hold aj jP;have aW:=fw aQ hf jy;have dI:=fw aQ hf Jt
  match i,ho with
  |0,ho|5,ho=>exact sv ho (bg rfl rfl)
  |1,ho=>exact sv ho (jK rfl (aj 0 rfl))
  |2,ho=>exact sv ho (lU rfl (aj 1 rfl))
  |3,ho=>exact sv ho (lT rfl (aj 2 rfl) (aW.cell 0))
  |4,ho=>exact sv ho (aC rfl rfl (dI.cell 0) (dI.cell 1))
  |6,ho=>
   exact absurd aH hi
  |7,ho=>exact sv ho (bg rfl (aj 6 rfl))
  |8,ho=>exact sv ho (rQ rfl (aj 7 rfl))
  |9,ho=>exact sv ho (rU rfl (aj 7 rfl))
  |10,ho=>
   obtain rfl:=aA ho;exact aY.mem (Px rfl) rfl rfl rfl ⟨_,rfl⟩ (.inl rfl) (λ_ h=>dG.below HK h (aU.alloc aK _))
  |11,ho=>
   obtain rfl:=aA ho;obtain⟨iR,gI⟩:=jP 10 rfl;have jd:=gI _ _ rfl;obtain⟨bz,jw⟩:=aj 10 rfl;rw[jw]at iR jd;change _<=bz at iR;change aO W bz _ _ at jd;exact aY.oh (ji rfl jw (aj 8 rfl) jd) rfl rfl rfl jw iR (λ_ dK=>(λ_ h=>dG.far HK h jd ak dK ay ay ay ay))
  |12,ho=>exact sv ho (jo rfl (aj 9 rfl))
  |n+13,ho=>exact absurd ho aH
 ·intro t i o ht ho u W hf bG aj;have aW:=fw aQ hf jy;have dI:=fw aQ hf Jt
  match t,ht with
  |0,ht=>
   have ht:=aA ht;subst ht;obtain rfl:=aA ho;refine⟨aB rfl,Does.call (lQ Zx rfl (aj 3 rfl) (aj 4 rfl) (aj 5 rfl)) ?_⟩;obtain⟨S1,hs,hp⟩:=bG;refine aac (HAT.out S1 W hs hp) ?_;rintro e w' ⟨rfl,h1,h2⟩;exact⟨_,rfl,rfl,rfl,h2,S1,h1,hp⟩
  |n+1,ht=>exact absurd ht aH
 ·intro u W hf bG au;have aW:=fw aQ hf jy;have dI:=fw aQ hf Jt;have e0:=au.q 0;have e1:=au.q 1;have e2:=au.q 2;have e3:=au.q 3;have e4:=au.q 4;have e5:=au.q 5;have e6:=au.q 6;have e7:=au.q 7;have e8:=au.q 8;have e9:=au.q 9;obtain⟨b10,e10⟩:∃b,u 10= .pointer (some ⟨b,0,none⟩):=au.p 10 ay trivial;have lS:=(au.p 11 ay trivial);change _<=mX (u 10)/\aO W (mX (u 10)) _ _ at lS;rw[e10]at lS;have anc:=lS.1;change _<=b10 at anc
  replace lS:=lS.2
  change aO W b10 _ _ at lS;have e12:=au.q 12;simp only[e0,e1,e2,e3,e4,e5,e6,e7,e8,e9,e10,e12];obtain⟨S1,hs,hp⟩:dG B u0 q T m (λS1=>Fo f S1) W:=bG;have qQ:Hid (gK B u0 q tq T f m W):=ah ⟨S1,⟨hs,hf.nil_.blk jy (λa=>by have:=aQ.out _ a;omega),I5⟩,hp⟩;have kL:=ah (l9.out.trans hf.nil_);have LD:=ah lS;obtain⟨w2,yY⟩:=aJ (W);rw[<-yY]at qQ kL LD ⊢;have Rf:Hid (aO w2 tq 75 #[.pointer (some ⟨q,0,none⟩)]):=ah (by obtain⟨S1,h1,_⟩:=qQ.out;exact h1.bk);have yj:=kL.out.size;clear au hf hs hp e0 e1 e2 e3 e4 e5 e6 e7 e8 e9 e10 e12 aW dI yY pR l9 jy lS MO Jt u W;have c0:w2.cell? ⟨b10,0,none⟩=some (.int .i64 kx.1):=LD.out.cell 0;have c1:w2.cell? ⟨b10,1,none⟩=some (.int .i64 kx.2):=LD.out.cell 1;have Nc:=LD.out.lt;have dJ:=(aai w2.heap.size w2).alloc aK (.cells (aI kx) 71);have HE:Hid (∃v,WA (some kx) v w.heap.size _/\TE F B u0 q tq T f m (.tuple #[v, .int .i64 0]) w (.returned (.tuple #[.slice (some ⟨w2.heap.size,0,none⟩) 1 1, .int .i64 0])) _):=ah ⟨_,⟨w2.heap.size,yj,rfl,aO.new w2 71 (aI kx)⟩,rfl,qQ.out.below HK dJ,kL.out.then_ dJ⟩;clear dJ qQ kL LD Rf;go_wp2;go_ret2;exact HE
theorem LH(K:Kv F B u0 T){t:Bt}{g:List Bt}(h:gK B u0 q tq T (t::g) m w){v:Int}(hv:(v,v)∈t.list)(hc:t.cnt<=249):Calls prog 38 #[.pointer (some ⟨tq,0,none⟩), .int .i64 v] w λe w'=>∃l:List Bt,((t.list.length=1/\l= [])\/(t.list.length≠1/\l= [t]))/\TE F B u0 q tq T (l++g) m (.int .i64 0) w e w':=by
 have pO:=h.cell;have lI:=h.lt;have Wx:=ah (Dn (w0:=w) v);have hlen:0<t.list.length:=List.length_pos_of_mem hv;obtain⟨n,hn⟩:=aJ (t.list.length)
 have HM1:Hid (∀W,Below w.heap.size w W->Calls prog 44 #[.pointer (some ⟨q,0,none⟩),aG (v,v)] W λe w'=>e= .returned (.tuple #[.int .i64 (n:Nat), .int .i64 0])/\Hid (gK B u0 q tq T (t::g) m w'/\Fr F w w')/\w'.cell? ⟨tq,0,none⟩=some (.pointer (some ⟨q,0,none⟩))):=ah λW hW=>by
  refine(Zz K (h.below K hW) aae hv hc).mono ?_;rintro e w' ⟨rfl,a1,a2⟩;exact⟨by rw[hn],ah ⟨a1,(Fr.of_below hW).trans a2⟩,a1.cell⟩
 rw[<-hn];by_cases h1:n=1
 ·have Dq:t.list= [(v,v)]:=by
   obtain⟨x,hx⟩:=List.length_eq_one_iff.1 (hn.symm.trans h1);rw[hx]at hv ⊢;rw[acI.1 hv]
  have HRM:=ah (λW (hW:gK B u0 q tq T (t::g) m W)=>U9 K hW Dq);have Nh:¬ (1:Int)<(n:Int):=by omega
  have HK:=ah K;clear h hv hc Dq hn K;subst h1;go_enter func38,ntmps38
  go_wp2_with fail
  go_region_held3 (λW=>W.cell? ⟨tq,0,none⟩=some (.pointer (some ⟨q,0,none⟩))) (first | exact pO | exact MZ | exact Vx)
    (first
    |(go_at_call 41;refine aac (Wx.out _ (by first | exact aU | exact aU.drew)) ?_;rintro e w2 ⟨rfl,bK⟩;have MZ:w2.cell? ⟨tq,0,none⟩=some (.pointer (some ⟨q,0,none⟩)):=(bK.cell (p:=⟨tq,0,none⟩) lI).trans pO)
    |(go_at_call 44;refine aac (HM1.out _ (by first | exact bK | exact bK.drew)) ?_;rintro e w3 ⟨rfl,AV,Vx⟩))
  clear pO MZ bK Wx HM1;have pO:w3.cell? ⟨tq,0,none⟩=some (.pointer (some ⟨q,0,none⟩)):=Vx;have lI:=AV.out.1.lt;have Wx:=ah (Dn (w0:=w3) v)
  have VU:Hid (∀W,Below w3.heap.size w3 W->Calls prog 71 #[.pointer (some ⟨q,0,none⟩),aG (v,v)] W λe w'=>e= .returned (.int .i64 0)/\Hid (TE F B u0 q tq T g m (.int .i64 0) w (.returned (.int .i64 0)) w')/\w'.cell? ⟨tq,0,none⟩=some (.pointer (some ⟨q,0,none⟩))):=ah λW hW=>by
   refine(HRM.out W (AV.out.1.below HK hW)).mono ?_;rintro e w' ⟨rfl,a1,a2⟩;exact⟨rfl,ah ⟨rfl,a1,(AV.out.2.then_ hW).trans a2⟩,a1.cell⟩
  clear HRM Vx;go_wp2_with fail
  go_region_held3 (λW=>W.cell? ⟨tq,0,none⟩=some (.pointer (some ⟨q,0,none⟩))) (first | exact pO | exact hS4 | exact hS5)
    (first
    |(go_at_call 41;refine aac (Wx.out _ (by first | exact aU | exact aU.drew)) ?_;rintro e w4 ⟨rfl,iC⟩;have hS4:w4.cell? ⟨tq,0,none⟩=some (.pointer (some ⟨q,0,none⟩)):=(iC.cell (p:=⟨tq,0,none⟩) lI).trans pO)
    |(go_at_call 71;refine aac (VU.out _ (by first | exact iC | exact iC.drew)) ?_;rintro e w5 ⟨rfl,nX,hS5⟩))
  go_wp2;go_ret;exact⟨[], .inl aH,nX⟩
 ·have Nh:(1:Int)<(n:Int):=by omega
  clear h hv hc hn K hlen;go_enter func38,ntmps38
  go_wp2_with fail
  go_region_held3 (λW=>W.cell? ⟨tq,0,none⟩=some (.pointer (some ⟨q,0,none⟩))) (first | exact pO | exact MZ | exact Vx)
    (first
    |(go_at_call 41;refine aac (Wx.out _ (by first | exact aU | exact aU.drew)) ?_;rintro e w2 ⟨rfl,bK⟩;have MZ:w2.cell? ⟨tq,0,none⟩=some (.pointer (some ⟨q,0,none⟩)):=(bK.cell (p:=⟨tq,0,none⟩) lI).trans pO)
    |(go_at_call 44;refine aac (HM1.out _ (by first | exact bK | exact bK.drew)) ?_;rintro e w3 ⟨rfl,AV,Vx⟩))
  go_wp2;go_ret;exact⟨[t], .inr ⟨h1,rfl⟩,rfl,AV.out.1,AV.out.2⟩
end
section
variable {F:Nat->Prop}{B u0 q tq m:Nat}{T:List bT->Nat->World->Prop}{S:St}{w w':World}
def SgE(F:Nat->Prop)(B u0 q tq:Nat)(T:List bT->Nat->World->Prop)(m:Nat)(g:List Bt)(p r:List Tok)(w:World)(e:Ending)(w':World):Prop:=
 ∃va vb,e= .returned (.tuple #[va,vb, .int .i64 0])/\WA p.getLast? va w.heap.size w'/\WA r.head? vb w.heap.size w'/\(∃l:List Bt,l.map Bt.list=(if p= []then []else [p])++(if r= []then []else [r])/\gK B u0 q tq T (l++g) m w')/\Fr F w w'
theorem LJ(K:Kv F B u0 T){t:Bt}{g:List Bt}(h:gK B u0 q tq T (t::g) m w){k:Tok}{p r:List Tok}(hx:t.list=p++k::r)(hc:t.cnt<=249):Calls prog 36 #[.pointer (some ⟨tq,0,none⟩),aG k] w (SgE F B u0 q tq T m g p r w):=by
 have hm:k∈t.list:=by rw[hx];simp
 have hlen:t.list.length=p.length+r.length+1:=by rw[hx];simp;omega
 have qP:t.list.length<=249:=by rw[<-Bt.dU];exact hc
 have Dz:=λW (hW:gK B u0 q tq T (t::g) m W)=>LC K hW aae hx hc;have EW:=λW (hW:gK B u0 q tq T (t::g) m W)=>Zz K hW aae hm hc;have HSP:=λW (hW:gK B u0 q tq T (t::g) m W)=>ZA K hW hx hc;obtain⟨n,hn⟩:=aJ (t.list.length);obtain⟨rk,Fa⟩:=aJ (p.length)
 have zZ:Hid (∀W,gK B u0 q tq T (t::g) m W->Calls prog 68 #[.pointer (some ⟨tq,0,none⟩),aG k, .int .i64 ((rk:Int)-1), .int .i64 (n:Nat)] W λe w'=>∃v,e= .returned (.tuple #[v, .int .i64 0])/\Hid (WA p.getLast? v W.heap.size w'/\gK B u0 q tq T (t::g) m w'/\Fr F W w')):=ah λW hW=>by
  by_cases e:p= []
  ·subst e;refine(LG K hW (k:=k) (i:=(rk:Int)-1) (n:=(n:Nat)) (.inl (by rw[Fa];simp))).mono ?_;rintro e w' ⟨rfl,a1,a2⟩;exact⟨_,rfl,ah ⟨rfl,a1,a2⟩⟩
  ·have Wi:0<p.length:=List.length_pos_iff.2 e;have:=PE K hW aae hm hc (i:=p.length-1) (n:=n) ak hn;rw[show((p.length-1:Nat):Int)=(rk:Int)-1 by omega]at this;refine this.mono ?_;rintro e w' ⟨v,h1,rfl,a1,a2⟩;refine⟨v,rfl,ah ⟨?_,a1,a2⟩⟩
   have e2:p.getLast? =some (t.list[p.length-1]'ak):=by
    rw[List.getLast?_eq_getElem?,acU ak]
    congr 1
    simp only[hx];rw[List.getElem_append_left ak]
   rw[e2];exact h1
 have qj:Hid (∀W,gK B u0 q tq T (t::g) m W->Calls prog 68 #[.pointer (some ⟨tq,0,none⟩),aG k, .int .i64 ((rk:Int)+1), .int .i64 (n:Nat)] W λe w'=>∃v,e= .returned (.tuple #[v, .int .i64 0])/\Hid (WA r.head? v W.heap.size w'/\gK B u0 q tq T (t::g) m w'/\Fr F W w')):=ah λW hW=>by
  by_cases e:r= []
  ·subst e;refine(LG K hW (k:=k) (i:=(rk:Int)+1) (n:=(n:Nat)) (.inr (by simp at hlen;omega))).mono ?_;rintro e w' ⟨rfl,a1,a2⟩;exact⟨_,rfl,ah ⟨rfl,a1,a2⟩⟩
  ·have Wi:0<r.length:=List.length_pos_iff.2 e;have:=PE K hW aae hm hc (i:=p.length+1) (n:=n) ak hn;rw[show((p.length+1:Nat):Int)=(rk:Int)+1 by omega]at this;refine this.mono ?_;rintro e w' ⟨v,h1,rfl,a1,a2⟩;refine⟨v,rfl,ah ⟨?_,a1,a2⟩⟩
   have e2:r.head? =some (t.list[p.length+1]'ak):=by
    rw[List.head?_eq_getElem?,acU Wi]
    congr 1
    simp only[hx];rw[ahv ak];simp
   rw[e2];exact h1
 rw[<-Fa]at Dz;rw[<-hn]at EW;have MX:IntKind.i64.wrap ((rk:Int)-1)=(rk:Int)-1:=acK _ ak;have uG:IntKind.i64.wrap ((rk:Int)+1)=(rk:Int)+1:=acK _ ak
 have nI:∀W,gK B u0 q tq T (t::g) m W->Calls prog 69 #[.pointer (some ⟨q,0,none⟩),aG k] W λe w'=>∃ (l:List Bt) (t2:Bt),l.map Bt.list=(if p= []then []else [p])/\t2.list=k::r/\TE F B u0 q tq T (t2::(l++g)) m (.int .i64 0) W e w'   :=λW hW=>by
  refine(HSP W hW).mono ?_;rintro e w' ⟨l,hl,rfl,a1,a2⟩;rcases hl with⟨e,rfl⟩ | ⟨e,t1,t2,rfl,h1,h2⟩
  ·exact⟨[],t,by rw[if_pos e];rfl,by rw[hx,e];rfl,rfl,a1,a2⟩
  ·exact⟨[t1],t2,by rw[if_neg e];simp[h1],h2,rfl,a1.perm (ahq _ _ _),a2⟩
 have ZX:Hid (r.length+1<=249):=ah ak;have hb:=(aai w.heap.size w).alloc aK (.cells (aI k) 71);have pI:=h.below K hb;have aja:Hid (Fr F w _):=ah (Fr.of_below (S:=F) hb);have VR:=ah (aO.new w 71 (aI k));obtain⟨w1,uw⟩:=aJ (w.alloc (.cells (aI k) 71));rw[<-uw]at pI aja VR;have pR:=ah pI;have anf:=ah (ahr pI.cell (ahr (VR.out.cell 0) (VR.out.cell 1)));change Hid (w1.cell? ⟨tq,0,none⟩=some (.pointer (some ⟨q,0,none⟩))/\w1.cell? ⟨w.heap.size,0,none⟩=some (.int .i64 k.1)/\w1.cell? ⟨w.heap.size,1,none⟩=some (.int .i64 k.2))at anf;have gI:=aja.out.size;have rF:=h.hq.1;have I5:=h.hq.2;have aCg:=h.lt;have Dz:=ah Dz;have EW:=ah EW;have nI:=ah nI;have HK:=ah K;have aQ:Hid (∀k,F k->k<B):=ah K.low;clear hb h hx hc hm hlen qP hn Fa pI HSP K;go_enter func36,ntmps36
 go_wp2_with fail
 rw[show w.alloc (.cells #[.int .i64 k.1, .int .i64 k.2] 71)=w1 from uw.symm];clear uw
 have VU:Hid (∀W,Below w1.heap.size w1 W->Calls prog 35 #[.pointer (some ⟨q,0,none⟩),aG k] W λe w'=>e= .returned (.tuple #[.int .i64 (rk:Nat), .int .i64 0])/\Hid (gK B u0 q tq T (t::g) m w')/\Hid (Fr F w w'/\aO w' w.heap.size 71 (aI k)/\Fr F w1 w')/\w'.cell? ⟨tq,0,none⟩=some (.pointer (some ⟨q,0,none⟩))/\w'.cell? ⟨w.heap.size,0,none⟩=some (.int .i64 k.1)/\w'.cell? ⟨w.heap.size,1,none⟩=some (.int .i64 k.2)):=ah λW hW=>by
  refine(Dz.out _ (pR.out.below HK hW)).mono ?_;rintro e w' ⟨rfl,a1,a2⟩;have wo:Fr F w1 w':=(Fr.of_below hW).trans a2;have Ir:=wo.blk VR (λa=>by have:=aQ.out _ a;omega);exact⟨rfl,ah (a1),ah ⟨aja.out.trans wo,Ir,wo⟩,a1.cell,Ir.cell 0,Ir.cell 1⟩
 have pO:=anf.out;have lI:=pR.out.lt;go_wp2_with fail
 go_region_held3 (λW=>W.cell? ⟨tq,0,none⟩=some (.pointer (some ⟨q,0,none⟩))/\W.cell? ⟨w.heap.size,0,none⟩=some (.int .i64 k.1)/\W.cell? ⟨w.heap.size,1,none⟩=some (.int .i64 k.2)) (first | exact pO | exact MZ)
   (first
   |(go_at_call 35;refine aac (VU.out _ (by first | exact aU | exact aU.drew)) ?_;rintro e w2 ⟨rfl,Z4,Sl,MZ⟩))
 have qQ:=Z4;have ang:=ah Sl.out.1;have atN:=ah Sl.out.2.1;have arL:=ah MZ;have yj:=ang.out.size;clear pO MZ VU
 have HM3:Hid (∀W,Below w2.heap.size w2 W->Calls prog 44 #[.pointer (some ⟨q,0,none⟩),aG k] W λe w'=>e= .returned (.tuple #[.int .i64 (n:Nat), .int .i64 0])/\Hid (gK B u0 q tq T (t::g) m w')/\Hid (Fr F w w'/\aO w' w.heap.size 71 (aI k)/\Fr F w2 w')/\w'.cell? ⟨tq,0,none⟩=some (.pointer (some ⟨q,0,none⟩))/\w'.cell? ⟨w.heap.size,0,none⟩=some (.int .i64 k.1)/\w'.cell? ⟨w.heap.size,1,none⟩=some (.int .i64 k.2)):=ah λW hW=>by
  refine(EW.out _ (qQ.out.below HK hW)).mono ?_;rintro e w' ⟨rfl,a1,a2⟩;have wo:Fr F w2 w':=(Fr.of_below hW).trans a2;have Ir:=wo.blk atN (λa=>by have:=aQ.out _ a;omega);exact⟨rfl,ah (a1),ah ⟨ang.out.trans wo,Ir,wo⟩,a1.cell,Ir.cell 0,Ir.cell 1⟩
 have pO:=arL.out;have lI:=qQ.out.lt;go_wp2_with fail
 go_region_held3 (λW=>W.cell? ⟨tq,0,none⟩=some (.pointer (some ⟨q,0,none⟩))/\W.cell? ⟨w.heap.size,0,none⟩=some (.int .i64 k.1)/\W.cell? ⟨w.heap.size,1,none⟩=some (.int .i64 k.2)) (first | exact pO | exact Vx)
   (first
   |(go_at_call 44;refine aac (HM3.out _ (by first | exact aU | exact aU.drew)) ?_;rintro e w3 ⟨rfl,AV,Oi,Vx⟩))
 have vZ:=AV;have anh:=ah Oi.out.1;have aoE:=ah Oi.out.2.1;have arM:=ah Vx;have IZ:=anh.out.size;clear pO Vx HM3;obtain⟨_,k0,k1⟩:=arM.out;have lk:=aoE.out.lt;have arN:=ah (zZ.out _ vZ);clear zZ Dz EW pR qQ anf arL aja ang VR atN Sl Oi Z4 AV;go_wp2_with fail
 refine aac arN ?_;rintro e w4 ⟨va,rfl,H4⟩;obtain⟨b4,t4,f4⟩:=H4.out;have Ce:=f4.blk aoE (λa=>by have:=aQ.out _ a;omega);have k0:w4.cell? ⟨w.heap.size,0,none⟩=some (.int .i64 k.1):=Ce.cell 0;have k1:w4.cell? ⟨w.heap.size,1,none⟩=some (.int .i64 k.2):=Ce.cell 1;have lk4:=Ce.lt;have arO:=ah (qj.out _ t4);have atO:=ah Ce;have ani:=ah (anh.out.trans f4);have arP:=ah (b4.lower IZ);have yU:=ani.out.size;clear qj arN H4 b4 t4 f4 Ce vZ anh aoE arM;go_wp2_with fail
 refine aac arO ?_;rintro e w5 ⟨vb,rfl,H5⟩;obtain⟨b5,t5,f5⟩:=H5.out;have Rz:=f5.blk atO (λa=>by have:=aQ.out _ a;omega);have anj:=ah (ahr t5.cell (ahr (Rz.cell 0) (Rz.cell 1)));change Hid (w5.cell? ⟨tq,0,none⟩=some (.pointer (some ⟨q,0,none⟩))/\w5.cell? ⟨w.heap.size,0,none⟩=some (.int .i64 k.1)/\w5.cell? ⟨w.heap.size,1,none⟩=some (.int .i64 k.2))at anj;have jl:=ah t5;have arQ:=ah Rz;have Gf:=ah (ani.out.trans f5);have arR:=ah (arP.out.fr f5 (λk a=>by have:=aQ.out k a;omega));have arS:=ah (b5.lower yU);have PV:=Gf.out.size;clear arO H5 b5 t5 f5 Rz ani atO arP k0 k1
 have RJ:Hid (∀W,Below w5.heap.size w5 W->Calls prog 69 #[.pointer (some ⟨q,0,none⟩),aG k] W λe w'=>e= .returned (.int .i64 0)/\Hid (∃ (l:List Bt) (t2:Bt),l.map Bt.list=(if p= []then []else [p])/\t2.list=k::r/\gK B u0 q tq T (t2::(l++g)) m w')/\Hid (Fr F w w'/\aO w' w.heap.size 71 (aI k)/\Fr F w5 w')/\w'.cell? ⟨tq,0,none⟩=some (.pointer (some ⟨q,0,none⟩))/\w'.cell? ⟨w.heap.size,0,none⟩=some (.int .i64 k.1)/\w'.cell? ⟨w.heap.size,1,none⟩=some (.int .i64 k.2)):=ah λW hW=>by
  refine(nI.out _ (jl.out.below HK hW)).mono ?_;rintro e w' ⟨l,t2,h1,h2,rfl,a1,a2⟩;have wo:Fr F w5 w':=(Fr.of_below hW).trans a2;have Ir:=wo.blk arQ (λa=>by have:=aQ.out _ a;omega);exact⟨rfl,ah (⟨l,t2,h1,h2,a1⟩),ah ⟨Gf.out.trans wo,Ir,wo⟩,a1.cell,Ir.cell 0,Ir.cell 1⟩
 have pO:=anj.out;have lI:=jl.out.lt;go_wp2_with fail
 go_region_held3 (λW=>W.cell? ⟨tq,0,none⟩=some (.pointer (some ⟨q,0,none⟩))/\W.cell? ⟨w.heap.size,0,none⟩=some (.int .i64 k.1)/\W.cell? ⟨w.heap.size,1,none⟩=some (.int .i64 k.2)) (first | exact pO | exact hS6)
   (first
   |(go_at_call 69;refine aac (RJ.out _ (by first | exact aU | exact aU.drew)) ?_;rintro e w6 ⟨rfl,EZ,YN,hS6⟩))
 obtain⟨l1,t2,E5,AZ,arT⟩:=EZ.out;have HL1:=ah E5;have mQ:=ah arT;have NY:=ah YN.out.1;have arU:=ah YN.out.2.1;have arV:=ah hS6;have VF:=NY.out.size;clear pO hS6 RJ
 have uz:Hid (∀W,gK B u0 q tq T (t2::(l1++g)) m W->Calls prog 70 #[.pointer (some ⟨q,0,none⟩),aG k] W λe w'=>∃ (l:List Bt) (t3:Bt),l.map Bt.list=(if r= []then []else [r])/\t3.list= [k]/\TE F B u0 q tq T (t3::(l++(l1++g))) m (.int .i64 0) W e w'):=ah λW hW=>by
  refine(afQ HK hW (p:= []) (r:=r) AZ (by rw[Bt.dU,AZ];exact ZX)).mono ?_;rintro e w' ⟨l,hl,rfl,a1,a2⟩;rcases hl with⟨e,rfl⟩ | ⟨e,t1,t3,rfl,h1,h2⟩
  ·exact⟨[],t2,by rw[if_pos e];rfl,by rw[AZ,e],rfl,a1,a2⟩
  ·exact⟨[t3],t1,by rw[if_neg e];simp[h2],by simpa using h1,rfl,a1,a2⟩
 have arW:=ah (arR.out.fr YN.out.2.2 (λk a=>by have:=aQ.out k a;omega));have arX:=ah (arS.out.fr YN.out.2.2 (λk a=>by have:=aQ.out k a;omega));clear E5 AZ arT EZ YN jl Gf arQ anj arR arS nI ZX
 have HM7:Hid (∀W,Below w6.heap.size w6 W->Calls prog 70 #[.pointer (some ⟨q,0,none⟩),aG k] W λe w'=>e= .returned (.int .i64 0)/\Hid (∃ (l:List Bt) (t3:Bt),l.map Bt.list=(if r= []then []else [r])/\t3.list= [k]/\gK B u0 q tq T (t3::(l++(l1++g))) m w')/\Hid (Fr F w w'/\aO w' w.heap.size 71 (aI k)/\Fr F w6 w')/\w'.cell? ⟨tq,0,none⟩=some (.pointer (some ⟨q,0,none⟩))/\w'.cell? ⟨w.heap.size,0,none⟩=some (.int .i64 k.1)/\w'.cell? ⟨w.heap.size,1,none⟩=some (.int .i64 k.2)):=ah λW hW=>by
  refine(uz.out _ (mQ.out.below HK hW)).mono ?_;rintro e w' ⟨l,t2,h1,h2,rfl,a1,a2⟩;have wo:Fr F w6 w':=(Fr.of_below hW).trans a2;have Ir:=wo.blk arU (λa=>by have:=aQ.out _ a;omega);exact⟨rfl,ah (⟨l,t2,h1,h2,a1⟩),ah ⟨NY.out.trans wo,Ir,wo⟩,a1.cell,Ir.cell 0,Ir.cell 1⟩
 have pO:=arV.out;have lI:=mQ.out.lt;go_wp2_with fail
 go_region_held3 (λW=>W.cell? ⟨tq,0,none⟩=some (.pointer (some ⟨q,0,none⟩))/\W.cell? ⟨w.heap.size,0,none⟩=some (.int .i64 k.1)/\W.cell? ⟨w.heap.size,1,none⟩=some (.int .i64 k.2)) (first | exact pO | exact hS7)
   (first
   |(go_at_call 70;refine aac (HM7.out _ (by first | exact aU | exact aU.drew)) ?_;rintro e w7 ⟨rfl,HR7,HG7,hS7⟩))
 obtain⟨l2,t3,MF,yQ,arY⟩:=HR7.out;have HL2:=ah MF;have nJ:=ah arY;have Va:=ah HG7.out.1;have arZ:=ah HG7.out.2.1;have ar0:=ah hS7;have hz7:=Va.out.size;clear pO hS7 HM7;have HRM:=ah (λW (hW:gK B u0 q tq T (t3::(l2++(l1++g))) m W)=>U9 HK hW yQ);have ar1:=ah (arW.out.fr HG7.out.2.2 (λk a=>by have:=aQ.out k a;omega));have ar2:=ah (arX.out.fr HG7.out.2.2 (λk a=>by have:=aQ.out k a;omega));clear MF yQ arY HR7 HG7 mQ NY arU arV arW arX uz
 have HM8:Hid (∀W,Below w7.heap.size w7 W->Calls prog 71 #[.pointer (some ⟨q,0,none⟩),aG k] W λe w'=>e= .returned (.int .i64 0)/\Hid (gK B u0 q tq T (l2++(l1++g)) m w')/\Hid (Fr F w w'/\aO w' w.heap.size 71 (aI k)/\Fr F w7 w')/\w'.cell? ⟨tq,0,none⟩=some (.pointer (some ⟨q,0,none⟩))/\w'.cell? ⟨w.heap.size,0,none⟩=some (.int .i64 k.1)/\w'.cell? ⟨w.heap.size,1,none⟩=some (.int .i64 k.2)):=ah λW hW=>by
  refine(HRM.out _ (nJ.out.below HK hW)).mono ?_;rintro e w' ⟨rfl,a1,a2⟩;have wo:Fr F w7 w':=(Fr.of_below hW).trans a2;have Ir:=wo.blk arZ (λa=>by have:=aQ.out _ a;omega);exact⟨rfl,ah (a1),ah ⟨Va.out.trans wo,Ir,wo⟩,a1.cell,Ir.cell 0,Ir.cell 1⟩
 have pO:=ar0.out;have lI:=nJ.out.lt;go_wp2_with fail
 go_region_held3 (λW=>W.cell? ⟨tq,0,none⟩=some (.pointer (some ⟨q,0,none⟩))/\W.cell? ⟨w.heap.size,0,none⟩=some (.int .i64 k.1)/\W.cell? ⟨w.heap.size,1,none⟩=some (.int .i64 k.2)) (first | exact pO | exact hS8)
   (first
   |(go_at_call 71;refine aac (HM8.out _ (by first | exact aU | exact aU.drew)) ?_;rintro e w8 ⟨rfl,MR,HG8,hS8⟩))
 have yZ:=MR;have Rh:=ah HG8.out.1;have awH:=ah HG8.out.2.1;have awI:=ah hS8;have hz8:=Rh.out.size;clear pO hS8 HM8;have HE:Hid (SgE F B u0 q tq T m g p r w (.returned (.tuple #[va,vb, .int .i64 0])) w8):=ah ⟨va,vb,rfl,ar1.out.fr HG8.out.2.2 (λk a=>by have:=aQ.out k a;omega),ar2.out.fr HG8.out.2.2 (λk a=>by have:=aQ.out k a;omega),⟨l1++l2,by rw[adt,HL1.out,HL2.out],yZ.out.perm (by rw[<-ac8];exact List.Perm.append_right g List.perm_append_comm)⟩,Rh⟩;clear ar1 ar2 HG8 yZ MR Rh awH awI nJ Va arZ ar0 HL1 HL2 HRM;go_wp2;go_ret3;exact HE
end
section
variable {F:Nat->Prop}{B u0 q tq m:Nat}{T:List bT->Nat->World->Prop}{S:St}{w w':World}
theorem uX:kG 42 2:=⟨_,underlying42,by kernel_rfl⟩
def yB(a b:Int):Int:=if jO a/\jO b then(if a=b then 31 else 0)else 30
theorem sS(xa xb:Int)(w:World):Calls prog 33 #[.int .i64 xa, .int .i64 xb] w λe w'=>∃y z:Int,e= .returned (.tuple #[.agg #[.int .i64 y, .int .i64 z], .int .i64 (yB xa xb)])/\Below w.heap.size w w':=by
 have HB:=ah (λy z:Int=>aO.new w 42 #[.int .i64 y, .int .i64 z]);have BZ:=ah (λy z:Int=>(aai w.heap.size w).alloc aK (.cells #[.int .i64 y, .int .i64 z] 42));obtain⟨r,hr⟩:=aJ (yB xa xb);have HR:=ah hr;rw[<-hr];clear hr;by_cases va:jO xa
 ·have ZV:Hid (∀W,Calls prog 62 #[.int .i64 xa] W λe w'=>e= .returned (.int .i64 0)/\w'=W):=ah λW=>by have:=Eo xa W;rwa [if_pos va]at this
  by_cases vb:jO xb
  ·have HVB:Hid (∀W,Calls prog 62 #[.int .i64 xb] W λe w'=>e= .returned (.int .i64 0)/\w'=W):=ah λW=>by have:=Eo xb W;rwa [if_pos vb]at this
   by_cases he:xa=xb
   ·have Yw:Hid (r=31):=ah (by rw[HR.out,yB,if_pos ⟨va,vb⟩,if_pos he]);subst he;clear va vb HR;go_enter func33,ntmps33
    go_wp2_with fail
    refine(ZV.out _).mono ?_;rintro e w' ⟨rfl,rfl⟩;go_wp2_with fail
    refine(HVB.out _).mono ?_;rintro e w' ⟨rfl,rfl⟩;go_wp2;refine bodyPost_ret (bJ uX rfl rfl (HB.out 0 0) rfl) rfl ?_;exact⟨0,0,by rw[Yw.out];rfl,BZ 0 0⟩
   ·have Yw:Hid (r=0):=ah (by rw[HR.out,yB,if_pos ⟨va,vb⟩,if_neg he]);clear va vb HR;go_enter func33,ntmps33
    go_wp2_with fail
    refine(ZV.out _).mono ?_;rintro e w' ⟨rfl,rfl⟩;go_wp2_with fail
    refine(HVB.out _).mono ?_;rintro e w' ⟨rfl,rfl⟩;go_wp2;refine bodyPost_ret (bJ uX rfl rfl (HB.out _ _) rfl) rfl ?_;exact⟨_,_,by rw[Yw.out];rfl,BZ _ _⟩
  ·have HVB:Hid (∀W,Calls prog 62 #[.int .i64 xb] W λe w'=>e= .returned (.int .i64 30)/\w'=W):=ah λW=>by have:=Eo xb W;rwa [if_neg vb]at this
   have Yw:Hid (r=30):=ah (by rw[HR.out,yB,if_neg λa=>vb a.2]);clear va vb HR;go_enter func33,ntmps33
   go_wp2_with fail
   refine(ZV.out _).mono ?_;rintro e w' ⟨rfl,rfl⟩;go_wp2_with fail
   refine(HVB.out _).mono ?_;rintro e w' ⟨rfl,rfl⟩;go_wp2;refine bodyPost_ret (bJ uX rfl rfl (HB.out 0 0) rfl) rfl ?_;exact⟨0,0,by rw[Yw.out];rfl,BZ 0 0⟩
 ·have ZV:Hid (∀W,Calls prog 62 #[.int .i64 xa] W λe w'=>e= .returned (.int .i64 30)/\w'=W):=ah λW=>by have:=Eo xa W;rwa [if_neg va]at this
  have Yw:Hid (r=30):=ah (by rw[HR.out,yB,if_neg λa=>va a.1]);clear va HR;go_enter func33,ntmps33
  go_wp2_with fail
  refine(ZV.out _).mono ?_;rintro e w' ⟨rfl,rfl⟩;go_wp2;refine bodyPost_ret (bJ uX rfl rfl (HB.out 0 0) rfl) rfl ?_;exact⟨0,0,by rw[Yw.out];rfl,BZ 0 0⟩
def AtT(v:Int)(A:List Bt)(s:List Tok):Prop:=(A= []/\s= [])\/∃ (t:Bt) (p r:List Tok),A= [t]/\t.list=p++(v,v)::r/\s=r++p
theorem Vb(K:Kv F B u0 T){f A g:List Bt}{s:List Tok}(h:gK B u0 q tq T f m w)(hm:1<=m){v:Int}(hv:jO v)(hp:f.Perm (A++g))(hA:AtT v A s)(hn:A= []->(v,v) ∉ toks f)(hc:(toks f).length<=249):Calls prog 39 #[.pointer (some ⟨tq,0,none⟩), .int .i64 v] w λe w'=>e= .returned (.int .i64 0)/\Hid (∃ (t':Bt) (m':Nat),t'.list=(v,v)::s/\m<=m'+1/\gK B u0 q tq T (t'::g) m' w')/\Hid (Fr F w w'):=by
 rcases hA with⟨rfl,rfl⟩ | ⟨t,p,r,rfl,hx,rfl⟩
 ·obtain⟨m1,rfl⟩:∃m1,m=m1+1:=⟨m-1,by omega⟩;refine(afR K h hv (hn rfl)).mono ?_;rintro e w' ⟨rfl,a1,a2⟩;exact⟨rfl,ah ⟨_,m1,rfl,by omega,a1.perm (List.Perm.cons _ hp)⟩,ah a2⟩
 ·have qP:t.cnt<=249:=by
   have:=(hp.map Bt.list).flatten.length_eq;rw[Bt.dU];simp only[toks]at hc;rw[this]at hc;simp at hc;omega
  refine(afS K (h.perm hp) hv hx qP).mono ?_;rintro e w' ⟨t',h1,rfl,a1,a2⟩;exact⟨rfl,ah ⟨t',m,h1,by omega,a1⟩,ah a2⟩
end
section
variable {F:Nat->Prop}{B u0 q tq m:Nat}{T:List bT->Nat->World->Prop}{S:St}{w w':World}
def LkS(X:List Bt->Nat->World->Prop)(f Bv g:List Bt)(m:Nat)(xu xv:Int)(su sv:List Tok):Nat->World->Prop
 |0,W=>X f m W
 |1,W=>∃ (tu:Bt) (m1:Nat),tu.list=(xu,xu)::su/\m<=m1+1/\X (tu::(Bv++g)) m1 W
 |2,W=>∃ (tu tv:Bt) (m1:Nat),tu.list=(xu,xu)::su/\tv.list=(xv,xv)::sv/\m<=m1+2/\X (tv::tu::g) m1 W
 |3,W=>∃ (tu tv:Bt) (m1:Nat),tu.list=(xu,xu)::su/\tv.list=(xv,xv)::sv/\m<=m1+3/\X (Bt.node .nil (xu,xv) .nil::tv::tu::g) m1 W
 |_,W=>∃ (tu tv:Bt) (m1:Nat),tu.list=(xu,xu)::su/\tv.list=(xv,xv)::sv/\m<=m1+4/\X (Bt.node .nil (xv,xu) .nil::Bt.node .nil (xu,xv) .nil::tv::tu::g) m1 W
structure LkH(f A Bv g:List Bt)(m:Nat)(xu xv:Int)(su sv:List Tok):Prop where
 m4:4<=m
 vu:jO xu
 vv:jO xv
 ne:xu≠xv
 p:f.Perm (A++(Bv++g))
 a:AtT xu A su
 b:AtT xv Bv sv
 an:A= []->(xu,xu) ∉ toks f
 bn:Bv= []->(xv,xv) ∉ toks f
 uv:(xu,xv) ∉ toks f
 vu_:(xv,xu) ∉ toks f
 cnt:(toks f).length+4<=249
section
variable {f A Bv g:List Bt}{xu xv v:Int}{su sv s:List Tok}
theorem AQ{f g:List Bt}(h:f.Perm g):(toks f).Perm (toks g):=(h.map _).flatten
theorem bF{t:Bt}{f:List Bt} :toks (t::f)=t.list++toks f:=rfl
theorem pq{f g:List Bt} :toks (f++g)=toks f++toks g:=by simp[toks]
theorem AtT.mem(h:AtT v A s){x:Tok}(hx:x∈(v,v)::s):x=(v,v)\/x∈toks A:=by
 rcases h with⟨_,rfl⟩ | ⟨t,p,r,rfl,hl,rfl⟩
 ·exact .inl (acI.1 hx)
 ·rw[bF,hl];simp at hx ⊢;rcases hx with hx | hx | hx<;>simp[hx]
theorem AtT.len(h:AtT v A s):s.length<=(toks A).length:=by
 rcases h with⟨_,rfl⟩ | ⟨t,p,r,rfl,hl,rfl⟩
 ·exact ac4 _
 ·rw[bF,hl];simp;omega
theorem LkH.num(H:LkH f A Bv g m xu xv su sv):(toks f).length=(toks A).length+((toks Bv).length+(toks g).length)/\(∀x,x∈toks f ↔ x∈toks A\/x∈toks Bv\/x∈toks g):=by
 have h:=AQ H.p;refine⟨by rw[h.length_eq,pq,pq];simp,λx=>by rw[h.mem_iff,pq,pq];simp⟩
theorem ajb(K:Kv F B u0 T)(H:LkH f A Bv g m xu xv su sv):∀ (j:Nat) (hj:j< [xu,xv].length) (W:World),LkS (gK B u0 q tq T) f Bv g m xu xv su sv j W->Calls prog 39 #[.pointer (some ⟨tq,0,none⟩), .int .i64 [xu,xv][j]] W λe w'=>e= .returned (.int .i64 0)/\Hid (LkS (gK B u0 q tq T) f Bv g m xu xv su sv (j+1) w')/\Hid (Fr F W w')
 |0,_,W,h=>by
  refine(Vb K (f:=f) h (by have:=H.m4;omega) H.vu H.p H.a H.an (by have:=H.cnt;omega)).mono ?_;rintro e w' ⟨rfl,h1,h2⟩;exact⟨rfl,h1,h2⟩
 |1,_,W,h=>by
  obtain⟨tu,m1,htu,hm,h⟩:=h;obtain⟨n1,n2⟩:=H.num;have hl:=H.a.len;refine(Vb K (A:=Bv) (g:=tu::g) (s:=sv) h (by have:=H.m4;omega) H.vv List.perm_middle.symm H.b (λhb hx=> ?_) ?_).mono ?_
  ·rw[bF,htu,pq]at hx;rcases aaf.1 hx with hx | hx
   ·rcases H.a.mem hx with e | hx
    ·exact H.ne (by injection e with e _;exact e.symm)
    ·exact H.bn hb ((n2 _).2 (.inl hx))
   ·exact H.bn hb ((n2 _).2 (.inr (aaf.1 hx)))
  ·have:=H.cnt;rw[bF,htu,pq];simp;omega
  ·rintro e w' ⟨rfl,h1,h2⟩;obtain⟨tv,m2,htv,AX,h1⟩:=h1.out;exact⟨rfl,ah ⟨tu,tv,m2,htu,htv,by omega,h1⟩,h2⟩
 |j+2,hj,_,_=>absurd hj aH
theorem ajc(K:Kv F B u0 T)(H:LkH f A Bv g m xu xv su sv):∀ (j:Nat) (hj:j< [(xu,xv),(xv,xu)].length) (W:World),LkS (gK B u0 q tq T) f Bv g m xu xv su sv (j+2) W->Calls prog 40 #[.pointer (some ⟨q,0,none⟩),aG [(xu,xv),(xv,xu)][j]] W λe w'=>e= .returned (.int .i64 0)/\Hid (LkS (gK B u0 q tq T) f Bv g m xu xv su sv (j+3) w'/\Fr F W w')/\w'.cell? ⟨tq,0,none⟩=some (.pointer (some ⟨q,0,none⟩))
 |0,_,W,h=>by
  obtain⟨tu,tv,m1,htu,htv,hm,h⟩:=h;obtain⟨m2,rfl⟩:∃m2,m1=m2+1:=⟨m1-1,by have:=H.m4;omega⟩;obtain⟨_,n2⟩:=H.num;refine(Yc K h (x:=(xu,xv)) ⟨H.vu,H.vv⟩ λhx=> ?_).mono ?_
  ·rw[bF,bF,htu,htv]at hx;rcases aaf.1 hx with hx | hx
   ·rcases H.b.mem hx with e | hx
    ·exact H.ne (by injection e)
    ·exact H.uv ((n2 _).2 (.inr (.inl hx)))
   ·rcases aaf.1 hx with hx | hx
    ·rcases H.a.mem hx with e | hx
     ·exact H.ne (by injection e with _ e;exact e.symm)
     ·exact H.uv ((n2 _).2 (.inl hx))
    ·exact H.uv ((n2 _).2 (.inr (.inr hx)))
  ·rintro e w' ⟨rfl,h1,h2⟩;exact⟨rfl,ah ⟨⟨tu,tv,m2,htu,htv,by omega,h1⟩,h2⟩,h1.cell⟩
 |1,_,W,h=>by
  obtain⟨tu,tv,m1,htu,htv,hm,h⟩:=h;obtain⟨m2,rfl⟩:∃m2,m1=m2+1:=⟨m1-1,by have:=H.m4;omega⟩;obtain⟨_,n2⟩:=H.num;refine(Yc K h (x:=(xv,xu)) ⟨H.vv,H.vu⟩ λhx=> ?_).mono ?_
  ·rw[bF,bF,bF,htu,htv]at hx;rcases aaf.1 hx with hx | hx
   ·simp[Bt.list]at hx;exact H.ne hx.1.symm
   rcases aaf.1 hx with hx | hx
   ·rcases H.b.mem hx with e | hx
    ·exact H.ne (by injection e)
    ·exact H.vu_ ((n2 _).2 (.inr (.inl hx)))
   ·rcases aaf.1 hx with hx | hx
    ·rcases H.a.mem hx with e | hx
     ·exact H.ne (by injection e with e _;exact e.symm)
     ·exact H.vu_ ((n2 _).2 (.inl hx))
    ·exact H.vu_ ((n2 _).2 (.inr (.inr hx)))
  ·rintro e w' ⟨rfl,h1,h2⟩;exact⟨rfl,ah ⟨⟨tu,tv,m2,htu,htv,by omega,h1⟩,h2⟩,h1.cell⟩
 |j+2,hj,_,_=>absurd hj aH
theorem afV(K:Kv F B u0 T)(H:LkH f A Bv g m xu xv su sv)(h:LkS (gK B u0 q tq T) f Bv g m xu xv su sv 4 w){gb:Nat}(hB:aO w gb 71 (tokE.cells [(xu,xu),(xu,xv),(xv,xv),(xv,xu)]).toArray)(hg:B<=gb):Calls prog 37 #[.pointer (some ⟨tq,0,none⟩), .slice (some ⟨gb,0,none⟩) 4 4] w λe w'=>∃ (t':Bt) (m':Nat),t'.list=(xu,xu)::su++(xu,xv)::((xv,xv)::sv++ [(xv,xu)])/\m<=m'+4/\TE F B u0 q tq T (t'::g) m' (.int .i64 0) w e w':=by
 obtain⟨tu,tv,m1,htu,htv,hm,h⟩:=h
 have hp:(Bt.node .nil (xv,xu) .nil::Bt.node .nil (xu,xv) .nil::tv::tu::g).Perm (tu::([Bt.node .nil (xu,xv) .nil,tv,Bt.node .nil (xv,xu) .nil]++g)):=by
  exact(agE (a:=tu) (l₁:= [Bt.node .nil (xv,xu) .nil,Bt.node .nil (xu,xv) .nil,tv]) (l₂:=g)).trans (.cons _ (agE (a:=Bt.node .nil (xv,xu) .nil) (l₁:= [Bt.node .nil (xu,xv) .nil,tv]) (l₂:=g)).symm)
 obtain⟨n1,_⟩:=H.num;have h1:=H.a.len;have h2:=H.b.len;have:=H.cnt;refine(PD K (h.perm hp) (k0:=(xu,xu)) (ks:= [(xu,xv),(xv,xv),(xv,xu)]) (by rw[htu];simp) ⟨by simp[Bt.list],by rw[htv];simp,by simp[Bt.list],trivial⟩ aH ?_ hB hg aH).mono ?_
 ·simp[lists,htu,htv,Bt.list];omega
 ·rintro e w' ⟨t',hl,he⟩;exact⟨t',m1,by rw[hl];simp[lists,htu,htv,Bt.list],hm,he⟩
end
end
section
variable {F:Nat->Prop}{B u0 q tq m:Nat}{T:List bT->Nat->World->Prop}{S:St}{w w':World}
section
variable {f A Bv g:List Bt}{xu xv:Int}{su sv:List Tok}
theorem ajd(K:Kv F B u0 T)(h:gK B u0 q tq T f m w)(hk:yB xu xv≠0):Calls prog 11 #[.pointer (some ⟨tq,0,none⟩), .int .i64 xu, .int .i64 xv] w (TE F B u0 q tq T f m (.int .i64 (yB xu xv)) w):=by
 have MW:=ah (sS xu xv w);have rF:=h.hq.1;have I5:=h.hq.2;have lI:=h.lt;have HH:=ah h;have HK:=ah K;have aQ:Hid (∀k,F k->k<B):=ah K.low;obtain⟨r,hr⟩:=aJ (yB xu xv);rw[<-hr]at MW;have HR:=ah hr;have yV:r≠0:=by rw[hr];exact hk
 rw[<-hr];clear hr h K hk;go_enter func11,ntmps11
 go_wp2_with fail
 refine aac MW ?_;rintro e w1 ⟨y1,z1,rfl,bD⟩;have gI:=bD.size;have bK:=bD.alloc gI (.cells #[.int .i64 y1, .int .i64 z1] 42);have qQ:=ah (HH.out.below HK bK);have kL:Hid (Fr F w _):=ah (Fr.of_below (S:=F) bK);have qj:=ah bK;clear bD bK MW;go_wp2;go_ret;exact⟨rfl,qQ,kL⟩
theorem aje(K:Kv F B u0 T)(h:gK B u0 q tq T f m w)(hk:yB xu xv=0)(HJ:∀W,gK B u0 q tq T f m W->Calls prog 25 #[.pointer (some ⟨tq,0,none⟩), .int .i64 xu, .int .i64 xv] W (TE F B u0 q tq T f m (.tuple #[.bool true, .int .i64 0]) W)):Calls prog 11 #[.pointer (some ⟨tq,0,none⟩), .int .i64 xu, .int .i64 xv] w (TE F B u0 q tq T f m (.int .i64 1) w):=by
 have MW:=ah (sS xu xv w);have rF:=h.hq.1;have I5:=h.hq.2;have lI:=h.lt;have HH:=ah h;have HK:=ah K;have aQ:Hid (∀k,F k->k<B):=ah K.low;obtain⟨r,hr⟩:=aJ (yB xu xv);rw[<-hr]at MW;have HR:=ah hr;have HJJ:=ah HJ;rw[hk]at hr;subst hr;clear h K hk HJ HR;go_enter func11,ntmps11
 go_wp2_with fail
 refine aac MW ?_;rintro e w1 ⟨y1,z1,rfl,bD⟩;have gI:=bD.size;have bK:=bD.alloc gI (.cells #[.int .i64 y1, .int .i64 z1] 42);have qQ:=ah (HH.out.below HK bK);have kL:Hid (Fr F w _):=ah (Fr.of_below (S:=F) bK);have qj:=ah bK;clear bD bK MW;go_wp2_with fail
 refine aac (HJJ.out _ qQ) ?_;rintro e w3 ⟨rfl,yQ,nP⟩;have HE:Hid (TE F B u0 q tq T f m (.int .i64 1) w (.returned (.int .i64 1)) w3):=ah ⟨rfl,yQ,kL.out.trans nP⟩;clear yQ nP qQ kL;go_wp2;go_ret;exact HE
theorem ajf(K:Kv F B u0 T)(h:gK B u0 q tq T f m w)(H:LkH f A Bv g m xu xv su sv)(HJ:∀W,gK B u0 q tq T f m W->Calls prog 25 #[.pointer (some ⟨tq,0,none⟩), .int .i64 xu, .int .i64 xv] W (TE F B u0 q tq T f m (.tuple #[.bool false, .int .i64 0]) W)):Calls prog 11 #[.pointer (some ⟨tq,0,none⟩), .int .i64 xu, .int .i64 xv] w λe w'=>∃ (t':Bt) (m':Nat),t'.list=(xu,xu)::su++(xu,xv)::((xv,xv)::sv++ [(xv,xu)])/\m<=m'+4/\TE F B u0 q tq T (t'::g) m' (.int .i64 0) w e w':=by
 have MW:=ah (sS xu xv w);have rF:=h.hq.1;have I5:=h.hq.2;have lI:=h.lt;have HH:=ah h;have HK:=ah K;have aQ:Hid (∀k,F k->k<B):=ah K.low;obtain⟨r,hr⟩:=aJ (yB xu xv);rw[<-hr]at MW;have HR:=ah hr;have HJJ:=ah HJ;have hk:yB xu xv=0:=by rw[yB,if_pos ⟨H.vu,H.vv⟩,if_neg H.ne]
 have HTN:=ah (ajb (q:=q) (tq:=tq) K H);have HMK:=ah (ajc (q:=q) (tq:=tq) K H);have HCH:=ah (fun(W:World)=>afV (w:=W) (q:=q) (tq:=tq) K H);rw[hk]at hr;subst hr;clear h K hk HJ HR H;go_enter func11,ntmps11
 go_wp2_with fail
 refine aac MW ?_;rintro e w1 ⟨y1,z1,rfl,bD⟩;have gI:=bD.size;have bK:=bD.alloc gI (.cells #[.int .i64 y1, .int .i64 z1] 42);have qQ:=ah (HH.out.below HK bK);have kL:Hid (Fr F w _):=ah (Fr.of_below (S:=F) bK);have qj:=ah bK;clear bD bK MW;go_wp2_with fail
 refine aac (HJJ.out _ qQ) ?_;rintro e w3 ⟨rfl,yQ,nP⟩;have IZ:=(kL.out.trans nP).size;have iC:=(aai w3.heap.size w3).alloc aK (.cells #[.int .i64 xu, .int .i64 xv] 3);have sD:Hid (Fr F w _):=ah ((kL.out.trans nP).then_ iC);have vZ:Hid (LkS (gK B u0 q tq T) f Bv g m xu xv su sv 0 _):=ah (yQ.below HK iC);have vY:=ah (aO.new w3 3 #[.int .i64 xu, .int .i64 xv]);clear yQ nP iC qQ kL HJJ;go_wp2
 go_loopw [43] (λi wr=>∃j:Nat,j<=2/\i= .int .i64 (j:Nat)/\Hid (LkS (gK B u0 q tq T) f Bv g m xu xv su sv j wr)/\Hid (Fr F w wr)/\Hid (aO wr w3.heap.size 3 #[.int .i64 xu, .int .i64 xv])) (λi _=>2-(intOf i).toNat)
 case atStart=>exact⟨0,ac4 _,rfl,vZ,sD,vY⟩
 case round=>
  obtain⟨j,hj,rfl,HT,HF,HB⟩:=hrel;have Oe:=HF.out.size;by_cases hlt:j<2
  ·have c0:=Lm (l:= [xu,xv]) HB (k:=j) hlt;have Nc:=HB.out.lt;have hT:=HTN.out j hlt _ HT;obtain⟨xj,hxj⟩:=aJ ([xu,xv][j]'hlt);rw[<-hxj]at c0 hT;have HT_:=ah hT;have qg:(j:Int)<(2:Int):=by omega
   have A8:IntKind.i64.wrap ((j:Int)+1)=((j+1:Nat):Int):=by rw[acK _ ak];rfl
   clear hT hxj HT;go_wp2_with fail
   refine aac HT_ ?_;rintro e w' ⟨rfl,h1,h2⟩;have HFn:=ah (HF.out.trans h2);have Og:=ah (h2.out.blk HB (λa=>by have:=aQ.out _ a;omega));clear h2 HF HB HT_;go_wp2
   go_roundw
   case rel=>exact⟨j+1,by omega,by go_num,h1,HFn,Og⟩
   case measure=>simp[intOf];omega
  ·obtain rfl:j=2:=by omega
   clear vY vZ sD HB hlt HTN;go_wp2_with fail
   refine aac (Jk xu xv _) ?_;rintro e w5 ⟨rfl,lZ⟩;go_wp2_with fail
   refine aac (Jk xv xu _) ?_;rintro e w6 ⟨rfl,BR⟩;have hb7:=(lZ.trans (BR.mono lZ.size)).alloc (by have:=lZ.size;have:=BR.size;omega) (.cells #[.int .i64 xu, .int .i64 xv, .int .i64 xv, .int .i64 xu] 71);have xA:Hid (Fr F w _):=ah (HF.out.then_ hb7)
   have nJ:Hid (LkS (gK B u0 q tq T) f Bv g m xu xv su sv 2 _):=ah (by
    obtain⟨tu,tv,m1,a1,a2,a3,a4⟩:=HT.out
    exact⟨tu,tv,m1,a1,a2,a3,a4.below HK hb7⟩)
   have Si:=ah (aO.new w6 71 #[.int .i64 xu, .int .i64 xv, .int .i64 xv, .int .i64 xu]);have VF:w.heap.size<=w6.heap.size:=by have:=lZ.size;have:=BR.size;omega
   clear lZ BR hb7 HT HF;obtain⟨gb,hgb⟩:=aJ (w6.heap.size);rw[<-hgb]at Si;have hbg:w.heap.size<=gb:=by omega
   go_wp2
   try rw[<-hgb]
   clear hgb
   go_loopw [62] (λi wr=>∃j:Nat,j<=2/\i= .int .i64 (j:Nat)/\Hid (LkS (gK B u0 q tq T) f Bv g m xu xv su sv (j+2) wr)/\Hid (Fr F w wr)/\Hid (aO wr gb 71 #[.int .i64 xu, .int .i64 xv, .int .i64 xv, .int .i64 xu])) (λi _=>2-(intOf i).toNat)
   case atStart=>exact⟨0,ac4 _,rfl,nJ,xA,Si⟩
   case round=>
    clear Oe nJ xA Si;obtain⟨j,hj,rfl,HT,HF,HB⟩:=hrel;rename_i wr;have Oe:=HF.out.size;by_cases hlt:j<2
    ·obtain⟨c0,c1⟩:=xX (l:= [(xu,xv),(xv,xu)]) HB (k:=j) hlt;obtain⟨kx,hkx⟩:=aJ ([(xu,xv),(xv,xu)][j]'hlt);have hMK:=HMK.out j hlt;rw[<-hkx]at c0 c1 hMK;have Nc:=HB.out.lt;have fJ:=(aai wr.heap.size wr).alloc aK (.cells (aI kx) 71);have hX4:=aO.new wr 71 (aI kx);have lW:=HB.out.alloc (.cells (aI kx) 71);have sW:=HF.out.then_ fJ;obtain⟨w4,vU⟩:=aJ (wr.alloc (.cells (aI kx) 71))
     have hT4:LkS (gK B u0 q tq T) f Bv g m xu xv su sv (j+2) w4:=by
      rw[vU];have:=HT.out
      match j,hlt,this with
      |0,_,this=>
       obtain⟨tu,tv,m1,a1,a2,a3,a4⟩:=this;exact⟨tu,tv,m1,a1,a2,a3,a4.below HK fJ⟩
      |1,_,this=>
       obtain⟨tu,tv,m1,a1,a2,a3,a4⟩:=this;exact⟨tu,tv,m1,a1,a2,a3,a4.below HK fJ⟩
     have ar4:w4.cell? ⟨tq,0,none⟩=some (.pointer (some ⟨q,0,none⟩)):=by
      match j,hlt,hT4 with
      |0,_,this=>
       obtain⟨tu,tv,m1,a1,a2,a3,a4⟩:=this;exact a4.cell
      |1,_,this=>
       obtain⟨tu,tv,m1,a1,a2,a3,a4⟩:=this;exact a4.cell
     have iT:∀W,Below w4.heap.size w4 W->LkS (gK B u0 q tq T) f Bv g m xu xv su sv (j+2) W:=λW hW=>by
      match j,hlt,hT4 with
      |0,_,this=>
       obtain⟨tu,tv,m1,a1,a2,a3,a4⟩:=this;exact⟨tu,tv,m1,a1,a2,a3,a4.below HK hW⟩
      |1,_,this=>
       obtain⟨tu,tv,m1,a1,a2,a3,a4⟩:=this;exact⟨tu,tv,m1,a1,a2,a3,a4.below HK hW⟩
     rw[<-vU]at hX4 lW sW;have pO:w4.cell? ⟨tq,0,none⟩=some (.pointer (some ⟨q,0,none⟩))/\w4.cell? ⟨wr.heap.size,0,none⟩=some (.int .i64 kx.1)/\w4.cell? ⟨wr.heap.size,1,none⟩=some (.int .i64 kx.2):=⟨ar4,hX4.cell 0,hX4.cell 1⟩;have awG:=hX4.lt
     have VU:Hid (∀W,Below w4.heap.size w4 W->Calls prog 40 #[.pointer (some ⟨q,0,none⟩),aG kx] W λe w'=>e= .returned (.int .i64 0)/\Hid (LkS (gK B u0 q tq T) f Bv g m xu xv su sv (j+1+2) w'/\Fr F w w'/\aO w' gb 71 #[.int .i64 xu, .int .i64 xv, .int .i64 xv, .int .i64 xu])/\w'.cell? ⟨tq,0,none⟩=some (.pointer (some ⟨q,0,none⟩))/\w'.cell? ⟨wr.heap.size,0,none⟩=some (.int .i64 kx.1)/\w'.cell? ⟨wr.heap.size,1,none⟩=some (.int .i64 kx.2)):=ah λW hW=>by
      refine(hMK W (iT W hW)).mono ?_;rintro e w' ⟨rfl,a1,a3⟩;have wo:Fr F w4 w':=(Fr.of_below hW).trans a1.out.2;have hXW:=wo.blk hX4 (λa=>by have:=aQ.out _ a;omega);exact⟨rfl,ah ⟨a1.out.1,sW.trans wo,wo.blk lW (λa=>by have:=aQ.out _ a;omega)⟩,a3,hXW.cell 0,hXW.cell 1⟩
     have qg:(j:Int)<(2:Int):=by omega
     have A8:IntKind.i64.wrap ((j:Int)+1)=((j+1:Nat):Int):=by rw[acK _ ak];rfl
     clear ar4 iT hT4 hX4 lW sW fJ hMK hkx HT HF HB;go_wp2_with fail
     rw[show wr.alloc (.cells #[.int .i64 kx.1, .int .i64 kx.2] 71)=w4 from vU.symm];clear vU
     go_region_held3 (λW=>W.cell? ⟨tq,0,none⟩=some (.pointer (some ⟨q,0,none⟩))/\W.cell? ⟨wr.heap.size,0,none⟩=some (.int .i64 kx.1)/\W.cell? ⟨wr.heap.size,1,none⟩=some (.int .i64 kx.2)) (first | exact pO | exact hS5)
       (first
       |(go_at_call 40;refine aac (VU.out _ (by first | exact aU | exact aU.drew)) ?_;rintro e w5 ⟨rfl,nX,hS5⟩))
     go_wp2
     go_roundw
     case rel=>exact⟨j+1,by omega,by go_num,ah nX.out.1,ah nX.out.2.1,ah nX.out.2.2⟩
     case measure=>simp[intOf];omega
    ·obtain rfl:j=2:=by omega
     clear hlt HB HMK;go_wp2_with fail
     refine aac (Dn (w0:=wr) xu _ aU) ?_;rintro e v1 ⟨rfl,hv1⟩;go_wp2_with fail
     refine aac (Pz (w0:=wr) xu xv _ hv1) ?_;rintro e v2 ⟨rfl,Oq⟩;clear hv1;go_wp2_with fail
     refine aac (Dn (w0:=wr) xv _ Oq) ?_;rintro e v3 ⟨rfl,hv3⟩;clear Oq;go_wp2_with fail
     refine aac (Pz (w0:=wr) xv xu _ hv3) ?_;rintro e v4 ⟨rfl,hv4⟩;clear hv3;have lZ:=hv4.alloc hv4.size (.cells #[.int .i64 xu, .int .i64 xu, .int .i64 xu, .int .i64 xv, .int .i64 xv, .int .i64 xv, .int .i64 xv, .int .i64 xu] 71)
     have HC:Hid (Calls prog 37 #[.pointer (some ⟨tq,0,none⟩), .slice (some ⟨v4.heap.size,0,none⟩) 4 4] _ λe w'=>∃ (t':Bt) (m':Nat),t'.list=(xu,xu)::su++(xu,xv)::((xv,xv)::sv++ [(xv,xu)])/\m<=m'+4/\TE F B u0 q tq T (t'::g) m' (.int .i64 0) w e w'):=ah (by
      obtain⟨tu,tv,m1,a1,a2,a3,a4⟩:=HT.out;have fG:=hv4.size;refine(HCH.out _ ⟨tu,tv,m1,a1,a2,a3,a4.below HK lZ⟩ (aO.new v4 71 _) ak).mono ?_;rintro e w' ⟨t',m',b1,b2,b3,b4,b5⟩
      exact⟨t',m',b1,b2,b3,b4,(HF.out.then_ lZ).trans b5⟩)
     clear lZ HT HF HCH;go_wp2_with fail
     refine aac HC ?_;rintro e w' ⟨t',m',b1,b2,rfl,b4,b5⟩;have HE:Hid (∃ (t':Bt) (m':Nat),t'.list=(xu,xu)::(su++(xu,xv)::(xv,xv)::(sv++ [(xv,xu)]))/\m<=m'+4/\TE F B u0 q tq T (t'::g) m' (.int .i64 0) w (.returned (.int .i64 0)) w'):=ah ⟨t',m',b1,b2,rfl,b4,b5⟩;clear b1 b2 b4 b5 HC;go_wp2;go_ret;exact HE
end
end
end Go.Proofs.YtadnmegdbllaoaaGreatDoor
namespace Sq
def qI(v:Int)(l:List Tok):Prop:=∃k,k∈l/\(k.1=v\/k.2=v)
def Way:Int->List Tok->Int->Prop
 |u, [],v=>u=v
 |u,k::l,v=>k.1=u/\Way k.2 l v
structure pz(s:List Tok):Prop where
 ne:s≠ []
 cyc:∃v,Way v s v
 rev:∀x y,(x,y)∈s->(y,x)∈s/\(x,x)∈s
 sep:∀x y p m q,x≠y->s=p++(x,y)::(m++(y,x)::q)->∀v,(v=y\/qI v m)->v=x\/qI v p\/qI v q->False
 nd:s.Nodup
section
variable {a b s p q m r:List Tok}{u v x y:Int}{k:Tok}
theorem Jl:¬qI v []:=fun⟨_,h,_⟩=>absurd h aaj
theorem dQ:qI v (a++b) ↔ qI v a\/qI v b:=by
 constructor
 ·rintro⟨k,h,e⟩;exact(aaf.1 h).imp (λh=>⟨k,h,e⟩) λh=>⟨k,h,e⟩
 ·rintro(⟨k,h,e⟩ | ⟨k,h,e⟩)
  ·exact⟨k,acM _ h,e⟩
  ·exact⟨k,List.mem_append_right _ h,e⟩
theorem iQ:qI v (k::a) ↔ (k.1=v\/k.2=v)\/qI v a:=by
 constructor
 ·rintro⟨j,h,e⟩;rcases aah.1 h with rfl | h
  ·exact .inl e
  ·exact .inr ⟨j,h,e⟩
 ·rintro(e | ⟨j,h,e⟩)
  ·exact⟨k,aae,e⟩
  ·exact⟨j,acF _ h,e⟩
theorem eX(h:k∈a):qI k.1 a/\qI k.2 a:=⟨⟨k,h, .inl rfl⟩,⟨k,h, .inr rfl⟩⟩
theorem rY:∀ {a:List Tok} {u v:Int},Way u (a++b) v ↔ ∃m,Way u a m/\Way m b v
 | [],u,v=>by
  constructor
  ·intro h;exact⟨u,rfl,h⟩
  ·rintro⟨m,e,h⟩;cases e;exact h
 |k::a,u,v=>by
  constructor
  ·rintro⟨e,h⟩;obtain⟨m,h1,h2⟩:=rY.1 h;exact⟨m,⟨e,h1⟩,h2⟩
  ·rintro⟨m,⟨e,h1⟩,h2⟩;exact⟨e,rY.2 ⟨m,h1,h2⟩⟩
theorem x9(h:b++a=p++k::r):(∃b1,b=p++k::b1/\r=b1++a)\/∃p1,p=b++p1/\a=p1++k::r:=by
 rcases List.append_eq_append_iff.1 h with⟨p1,e1,e2⟩ | ⟨c,e1,e2⟩
 ·exact .inr ⟨p1,e1,e2⟩
 ·cases c with
  |nil=>exact .inr ⟨[],by simpa using e1.symm,by simpa using e2.symm⟩
  |cons j c=>
   injection e2 with e2 e3;subst e2;exact .inl ⟨c,e1,e3⟩
theorem pz.rot(h:pz (a++b)):pz (b++a):=by
 obtain⟨h1,⟨w,h2⟩,h3,h4,h5⟩:=h;obtain⟨z,w1,w2⟩:=rY.1 h2;have hm:∀j:Tok,j∈b++a ↔ j∈a++b:=λj=>by rw[aaf,aaf];exact Or.comm
 refine⟨λe=>h1 ?_,⟨z,rY.2 ⟨w,w2,w1⟩⟩,λx y hx=> ?_,λx y p m q dL e v hv hq=> ?_, ?_⟩
 ·rw[List.append_eq_nil_iff]at e ⊢;exact⟨e.2,e.1⟩
 ·obtain⟨q1,q2⟩:=h3 x y ((hm _).1 hx);exact⟨(hm _).2 q1,(hm _).2 q2⟩
 ·rcases x9 e with⟨b1,e1,e2⟩ | ⟨p1,e1,e2⟩
  ·rcases x9 e2.symm with⟨b2,e3,e4⟩ | ⟨p2,e3,e4⟩
   ·subst e1 e3 e4;refine h4 x y (a++p) m b2 dL (by simp) v hv ?_;rw[dQ]at hq ⊢;rcases hq with hq | hq | hq | hq
    ·exact .inl hq
    ·exact .inr (.inl (.inr hq))
    ·exact .inr (.inr hq)
    ·exact .inr (.inl (.inl hq))
   ·subst e1 e3 e4;refine h4 y x p2 (q++p) b1 (ahc dL) (by simp) v ?_ ?_
    ·rw[dQ];rcases hq with hq | hq | hq
     ·exact .inl hq
     ·exact .inr (.inr hq)
     ·exact .inr (.inl hq)
    ·rw[dQ]at hv;rcases hv with hv | hv | hv
     ·exact .inl hv
     ·exact .inr (.inr hv)
     ·exact .inr (.inl hv)
  ·subst e1 e2;refine h4 x y p1 m (q++b) dL (by simp) v hv ?_;rw[dQ]at hq ⊢;rcases hq with hq | (hq | hq) | hq
   ·exact .inl hq
   ·exact .inr (.inr (.inr hq))
   ·exact .inr (.inl hq)
   ·exact .inr (.inr (.inl hq))
 ·rw[acG]at h5 ⊢;exact⟨h5.2.1,h5.1,λi hi j hj e=>h5.2.2 j hj i hi e.symm⟩
theorem afW(u:Int):pz [(u,u)]:=by
 refine⟨by simp,⟨u,rfl,rfl⟩,λx y h=> ?_,λx y p m q dL e=> ?_,by simp⟩
 ·simp only[acI,Prod.mk.injEq]at h ⊢;obtain⟨rfl,rfl⟩:=h;simp
 ·have:=congrArg ak8 e;simp at this;omega
theorem pz.way(h:pz (k::a)):Way k.1 (k::a) k.1:=by
 obtain⟨v,h1,h2⟩:=h.cyc;subst h1;exact⟨rfl,h2⟩
theorem Vd(e:(u,u)::a=p++(x,y)::r)(dL:x≠y):qI u p:=by
 cases p with
 |nil=>
  injection e with e _;injection e with e1 e2;exact absurd (e1.symm.trans e2) dL
 |cons j p=>
  injection e with e _;subst e;exact⟨(u,u),aae, .inl rfl⟩
theorem acg{s1 s2:List Tok}(h1:pz ((u,u)::s1))(h2:pz ((v,v)::s2))(hd:∀x,qI x ((u,u)::s1)->qI x ((v,v)::s2)->False):
  pz (((u,u)::s1)++(u,v)::(((v,v)::s2)++ [(v,u)])):=by
 have w1:=h1.way;have w2:=h2.way;have u1:qI u ((u,u)::s1):=iQ.2 (.inl (.inl rfl));have v2:qI v ((v,v)::s2):=iQ.2 (.inl (.inl rfl));obtain⟨a,ha⟩:∃a,a=(u,u)::s1:=⟨_,rfl⟩;obtain⟨b,hb⟩:∃b,b=(v,v)::s2:=⟨_,rfl⟩;have ho1:∀ {p r:List Tok} {x y:Int},a=p++(x,y)::r->x≠y->qI u p:=λe dL=>Vd (ha.symm.trans e) dL;have Ij:∀ {p r:List Tok} {x y:Int},b=p++(x,y)::r->x≠y->qI v p:=λe dL=>Vd (hb.symm.trans e) dL;rw[<-ha]at h1 hd u1 w1 ⊢;rw[<-hb]at h2 hd v2 w2 ⊢;have hu2:¬qI u b:=hd u u1;have hv1:¬qI v a:=λh=>hd v h v2;have WB:u≠v:=λe=>hv1 (e ▸ u1);refine⟨by simp,⟨u,rY.2 ⟨u,w1,rfl,rY.2 ⟨v,w2,rfl,rfl⟩⟩⟩,λx y hx=> ?_,λx y p m q dL e z hz hq=> ?_, ?_⟩
 ·simp only[aaf,aah,aaj,or_false]at hx ⊢;have hau:(u,u)∈a:=by rw[ha];exact aae
  have hbv:(v,v)∈b:=by rw[hb];exact aae
  rcases hx with hx | hx | hx | hx
  ·exact⟨.inl (h1.rev _ _ hx).1, .inl (h1.rev _ _ hx).2⟩
  ·injection hx with e1 e2;subst e1 e2;exact⟨.inr (.inr (.inr rfl)), .inl hau⟩
  ·exact⟨.inr (.inr (.inl (h2.rev _ _ hx).1)), .inr (.inr (.inl (h2.rev _ _ hx).2))⟩
  ·injection hx with e1 e2;subst e1 e2;exact⟨.inr (.inl rfl), .inr (.inr (.inl hbv))⟩
 ·rcases x9 e with⟨r1,e1,e2⟩ | ⟨p1,e1,e2⟩
  ·have hxa:(x,y)∈a:=by rw[e1];simp
   have ix:=(eX hxa).1;have iy:=(eX hxa).2;rcases x9 e2.symm with⟨q1,e3,e4⟩ | ⟨m1,e3,e4⟩
   ·have iu:=ho1 e1 dL;subst e3 e4;have hs:=h1.sep x y p m q1 dL e1
    have hza:qI z a:=by
     rw[e1];rcases hz with rfl | hz
     ·exact dQ.2 (.inr (iQ.2 (.inl (.inr rfl))))
     ·exact dQ.2 (.inr (iQ.2 (.inr (dQ.2 (.inl hz)))))
    rcases hq with hq | hq | hq
    ·exact hs z hz (.inl hq)
    ·exact hs z hz (.inr (.inl hq))
    ·rcases dQ.1 hq with hq | hq
     ·exact hs z hz (.inr (.inr hq))
     ·rcases iQ.1 hq with(rfl | rfl) | hq
      ·exact hs _ hz (.inr (.inl iu))
      ·exact hv1 hza
      ·rcases dQ.1 hq with hq | hq
       ·exact hd z hza hq
       ·rcases iQ.1 hq with(rfl | rfl) | hq
        ·exact hv1 hza
        ·exact hs _ hz (.inr (.inl iu))
        ·exact Jl hq
   ·have hm:(y,x)∈(u,v)::(b++ [(v,u)]):=by rw[e4];simp
    simp only[aaf,aah,aaj,or_false]at hm;rcases hm with hm | hm | hm
    ·injection hm with q1 q2;exact hv1 (q2 ▸ ix)
    ·exact hd x ix (eX hm).2
    ·injection hm with q1 q2;exact hv1 (q1 ▸ iy)
  ·cases p1 with
   |nil=>
    injection e2 with e2 e3;injection e2 with e4 e5;subst e4 e5;rw[agX]at e1;rcases x9 e3.symm.symm with⟨q1,e6,e7⟩ | ⟨m1,e6,e7⟩
    ·exact hu2 (eX (show(v,u)∈b by rw[e6];simp)).2
    ·have hl:=congrArg ak8 e7;simp only[aag,acH,adh]at hl;have hm1:m1= []:=adu.1 (by omega);have rZ:q= []:=adu.1 (by omega);subst hm1 rZ e1;rw[agX]at e6;subst e6;rcases hz with rfl | hz
     ·rcases hq with hq | hq | hq
      ·exact WB hq.symm
      ·exact hv1 hq
      ·exact Jl hq
     ·rcases hq with rfl | hq | hq
      ·exact hu2 hz
      ·exact hd z hq hz
      ·exact Jl hq
   |cons j p1=>
    injection e2 with e2 e3;subst e2;rcases x9 e3 with⟨r1,e4,e5⟩ | ⟨p2,e4,e5⟩
    ·have hxb:(x,y)∈b:=by rw[e4];simp
     have ix:=(eX hxb).1;have iy:=(eX hxb).2;rcases x9 e5.symm with⟨q1,e6,e7⟩ | ⟨m1,e6,e7⟩
     ·have iv:=Ij e4 dL;subst e6 e7;have hs:=h2.sep x y p1 m q1 dL e4
      have hzb:qI z b:=by
       rw[e4];rcases hz with rfl | hz
       ·exact dQ.2 (.inr (iQ.2 (.inl (.inr rfl))))
       ·exact dQ.2 (.inr (iQ.2 (.inr (dQ.2 (.inl hz)))))
      rcases hq with hq | hq | hq
      ·exact hs z hz (.inl hq)
      ·rw[e1]at hq;rcases dQ.1 hq with hq | hq
       ·exact hd z hq hzb
       ·rcases iQ.1 hq with(rfl | rfl) | hq
        ·exact hu2 hzb
        ·exact hs _ hz (.inr (.inl iv))
        ·exact hs z hz (.inr (.inl hq))
      ·rcases dQ.1 hq with hq | hq
       ·exact hs z hz (.inr (.inr hq))
       ·rcases iQ.1 hq with(rfl | rfl) | hq
        ·exact hs _ hz (.inr (.inl iv))
        ·exact hu2 hzb
        ·exact Jl hq
     ·have hm:(y,x)∈ [(v,u)]:=by rw[e7];simp
      rw[acI]at hm;injection hm with q1 q2;exact hu2 (q2 ▸ ix)
    ·have hl:=congrArg ak8 e5;simp only[aag,acH,adh]at hl;omega
 ·rw[acG,acZ,acG];refine⟨h1.nd,⟨?_,h2.nd,by simp, ?_⟩, ?_⟩
  ·intro hm;simp only[aaf,acI]at hm;rcases hm with hm | hm
   ·exact hu2 (eX hm).1
   ·injection hm with e1 _;exact WB e1
  ·intro i hi j hj e;rw[acI]at hj;subst hj e;exact hu2 (eX hi).2
  ·intro i hi j hj e;subst e;simp only[aah,aaf,aaj,or_false]at hj;rcases hj with rfl | hj | rfl
   ·exact hv1 (eX hi).2
   ·exact hd _ (eX hi).1 (eX hj).1
   ·exact hv1 (eX hi).1
theorem Et(h:pz (p++(u,v)::(m++(v,u)::q)))(WB:u≠v):pz m/\pz (p++q)/\(v,v)∈m/\(u,u)∈p++q/\∀x,qI x m->qI x (p++q)->False:=by
 have hs:=h.sep u v p m q WB rfl;have P5:∀x,qI x m->qI x (p++q)->False:=λx h1 h2=>hs x (.inr h1) (.inr (dQ.1 h2))
 have jk:∀j:Tok,j∈p++(u,v)::(m++(v,u)::q) ↔ j=(u,v)\/j=(v,u)\/j∈m\/j∈p++q:=λj=>by
  simp only[aaf,aah];constructor
  ·rintro(h | h | h | h | h)<;>simp[h]
  ·rintro(h | h | h | h | h)<;>simp[h]
 have hvu:¬qI v (p++q):=λh=>hs v (.inl rfl) (.inr (dQ.1 h));have huu:¬qI u m:=λh=>hs u (.inr h) (.inl rfl);obtain⟨r1,r2⟩:=h.rev u v (by simp);obtain⟨_,r3⟩:=h.rev v u r1
 have hvm:(v,v)∈m:=by
  rcases(jk _).1 r3 with e | e | e | e
  ·injection e with e _;exact absurd e.symm WB
  ·injection e with _ e;exact absurd e.symm WB
  ·exact e
  ·exact absurd (eX e).1 hvu
 have hup:(u,u)∈p++q:=by
  rcases(jk _).1 r2 with e | e | e | e
  ·injection e with _ e;exact absurd e WB
  ·injection e with e _;exact absurd e WB
  ·exact absurd (eX e).1 huu
  ·exact e
 obtain⟨z,hw⟩:=h.cyc;obtain⟨z1,w1,e1,w2⟩:=rY.1 hw;obtain⟨z2,w3,e2,w4⟩:=rY.1 w2;simp only at e1 e2 w3 w4;subst e1 e2;have jF:=h.nd;rw[acG,acZ,acG,acZ]at jF;obtain⟨n1,⟨n2,n3,⟨n4,n5⟩,n6⟩,n7⟩:=jF;refine⟨⟨λe=> ?_,⟨_,w3⟩,λx y hx=> ?_,λx y p' m' q' dL e z hz hq=> ?_,n3⟩,⟨λe=> ?_,⟨z,rY.2 ⟨_,w1,w4⟩⟩,λx y hx=> ?_,λx y p' m' q' dL e z hz hq=> ?_, ?_⟩,hvm,hup,P5⟩
 ·rw[e]at hvm;exact absurd hvm aaj
 ·have ix:=eX hx;obtain⟨r1,r2⟩:=h.rev x y ((jk _).2 (.inr (.inr (.inl hx))));refine⟨?_, ?_⟩
  ·rcases(jk _).1 r1 with e | e | e | e
   ·injection e with e _;exact absurd (e ▸ ix.2) huu
   ·injection e with _ e;exact absurd (e ▸ ix.1) huu
   ·exact e
   ·exact absurd (eX e).1 (P5 _ ix.2)
  ·rcases(jk _).1 r2 with e | e | e | e
   ·injection e with e _;exact absurd (e ▸ ix.1) huu
   ·injection e with _ e;exact absurd (e ▸ ix.1) huu
   ·exact e
   ·exact absurd (eX e).1 (P5 _ ix.1)
 ·subst e;refine h.sep x y (p++(u,v)::p') m' (q'++(v,u)::q) dL (by simp) z hz ?_;rcases hq with hq | hq | hq
  ·exact .inl hq
  ·exact .inr (.inl (dQ.2 (.inr (iQ.2 (.inr hq)))))
  ·exact .inr (.inr (dQ.2 (.inl hq)))
 ·rw[e]at hup;exact absurd hup aaj
 ·have ix:=eX hx;obtain⟨r1,r2⟩:=h.rev x y ((jk _).2 (.inr (.inr (.inr hx))));refine⟨?_, ?_⟩
  ·rcases(jk _).1 r1 with e | e | e | e
   ·injection e with _ e;exact absurd (e ▸ ix.1) hvu
   ·injection e with e _;exact absurd (e ▸ ix.2) hvu
   ·exact absurd (eX e).1 (λh=>P5 _ h ix.2)
   ·exact e
  ·rcases(jk _).1 r2 with e | e | e | e
   ·injection e with _ e;exact absurd (e ▸ ix.1) hvu
   ·injection e with e _;exact absurd (e ▸ ix.1) hvu
   ·exact absurd (eX e).1 (λh=>P5 _ h ix.1)
   ·exact e
 ·rcases x9 e with⟨b1,e1,e2⟩ | ⟨p1,e1,e2⟩
  ·rcases x9 e2.symm with⟨b2,e3,e4⟩ | ⟨p2,e3,e4⟩
   ·subst e1 e3 e4;refine h.sep x y p' m' (b2++(u,v)::(m++(v,u)::q)) dL (by simp) z hz ?_;rcases hq with hq | hq | hq
    ·exact .inl hq
    ·exact .inr (.inl hq)
    ·rcases dQ.1 hq with hq | hq
     ·exact .inr (.inr (dQ.2 (.inl hq)))
     ·exact .inr (.inr (dQ.2 (.inr (iQ.2 (.inr (dQ.2 (.inr (iQ.2 (.inr hq)))))))))
   ·subst e1 e3 e4;refine h.sep x y p' (b1++(u,v)::(m++(v,u)::p2)) q' dL (by simp) z ?_ hq;rcases hz with hz | hz
    ·exact .inl hz
    ·rcases dQ.1 hz with hz | hz
     ·exact .inr (dQ.2 (.inl hz))
     ·exact .inr (dQ.2 (.inr (iQ.2 (.inr (dQ.2 (.inr (iQ.2 (.inr hz))))))))
  ·subst e1 e2;refine h.sep x y (p++(u,v)::(m++(v,u)::p1)) m' q' dL (by simp) z hz ?_;rcases hq with hq | hq | hq
   ·exact .inl hq
   ·rcases dQ.1 hq with hq | hq
    ·exact .inr (.inl (dQ.2 (.inl hq)))
    ·exact .inr (.inl (dQ.2 (.inr (iQ.2 (.inr (dQ.2 (.inr (iQ.2 (.inr hq)))))))))
   ·exact .inr (.inr hq)
 ·rw[acG];exact⟨n1,n5,λi hi j hj e=>n7 i hi j (by simp[hj]) e⟩
end
end Sq
namespace Sq
def vs(s:List Tok):List Int:=(s.filter λk=>k.1==k.2).map (·.1)
section
variable {s a b p q m:List Tok}{u v x y:Int}{k:Tok}
theorem Gg:x∈vs s ↔ (x,x)∈s:=by
 unfold vs;rw[List.mem_map];constructor
 ·rintro⟨⟨y,z⟩,h,rfl⟩;rw[adx]at h;obtain⟨h1,h2⟩:=h;have h3:y=z:=by simpa using h2
  rw[<-h3]at h1;exact h1
 ·intro h;exact⟨(x,x),adx.2 ⟨h,by simp⟩,rfl⟩
theorem Ri(a b:List Tok):vs (a++b)=vs a++vs b:=by unfold vs;rw[List.filter_append,adt]
theorem afX(h:x≠y):vs ((x,y)::a)=vs a:=by
 unfold vs;rw[List.filter_cons];have:((x==y)=true)=False:=by simp[h]
 simp only[this,if_false]
theorem pz.Gh(h:pz s):qI x s ↔ x∈vs s:=by
 rw[Gg];constructor
 ·rintro⟨⟨y,z⟩,h1,h2⟩;obtain⟨r1,r2⟩:=h.rev y z h1;simp only at h2;rcases h2 with rfl | rfl
  ·exact r2
  ·exact(h.rev _ _ r1).2
 ·intro h1;exact(eX h1).1
theorem pz.at_(h:pz s)(hm:(x,y)∈s)(dL:x≠y):∃u v p m q,u≠v/\s=p++(u,v)::(m++(v,u)::q):=by
 have hr:=(h.rev x y hm).1;obtain⟨p,r,e⟩:=ado hm;rw[e]at hr;rcases aaf.1 hr with hr | hr
 ·obtain⟨p1,p2,e2⟩:=ado hr;exact⟨y,x,p1,p2,r,ahc dL,by rw[e,e2];simp⟩
 ·rcases aah.1 hr with e2 | hr
  ·injection e2 with e2 _;exact absurd e2.symm dL
  ·obtain⟨m,q,e2⟩:=ado hr;exact⟨x,y,p,m,q,dL,by rw[e,e2]⟩
theorem Ve:∀ {l:List Tok} {u v:Int},Way u l v->(∀k,k∈l->k.1=k.2)->∀k,k∈l->k=(u,u)
 | [],u,v,h,ha,k,hk=>absurd hk aaj
 |(a,b)::l,u,v,⟨h1,h2⟩,ha,k,hk=>by
  have e:=ha (a,b) aae;simp only at e h1 h2;subst e h1;rcases aah.1 hk with rfl | hk
  ·rfl
  ·exact Ve h2 (λk hk=>ha k (acF _ hk)) k hk
theorem zT:∀ (n:Nat) (s:List Tok),s.length<=n->pz s->s.length+2=3*(vs s).length
 |0,s,hn,h=>absurd (adu.1 (by omega)) h.ne
 |n+1,s,hn,h=>by
  by_cases hw:∀k,k∈s->k.1=k.2
  ·obtain⟨v,hv⟩:=h.cyc;have ha:=Ve hv hw
   have hs:s= [(v,v)]:=by
    cases s with
    |nil=>exact absurd rfl h.ne
    |cons j l=>
     have ej:=ha j aae
     cases l with
     |nil=>rw[ej]
     |cons i l=>
      exfalso
      have ei:=ha i (by simp);have jF:=h.nd;rw[ej,ei,acZ]at jF;exact jF.1 aae
   rw[hs];simp[vs]
  ·have hw':∃k,k∈s/\k.1≠k.2:=adr λhn=>hw λk hk=>adr λe=>hn ⟨k,hk,e⟩;obtain⟨⟨x,y⟩,hk,dL⟩:=hw';obtain⟨u,v,p,m,q,WB,rfl⟩:=h.at_ hk dL;obtain⟨t1,t2,_⟩:=Et h WB;simp only[aag,acH]at hn;have l1:=zT n m (by omega) t1;have l2:=zT n (p++q) (by rw[aag];omega) t2;rw[Ri,aag,aag]at l2;rw[Ri,afX WB,Ri,afX (ahc WB)];simp only[aag,acH];omega
theorem ZC{P:Int->Prop} :∀ {l:List Tok} {u v:Int},Way u l v->P u->(∀x y,(x,y)∈l->P x->P y)->∀k,k∈l->P k.1/\P k.2
 | [],u,v,h,hu,hs,k,hk=>absurd hk aaj
 |(a,b)::l,u,v,⟨h1,h2⟩,hu,hs,k,hk=>by
  simp only at h1 h2;subst h1;have hb:=hs a b aae hu;rcases aah.1 hk with rfl | hk
  ·exact⟨hu,hb⟩
  ·exact ZC h2 hb (λx y h=>hs x y (acF _ h)) k hk
theorem ach{P:Int->Prop}(h:pz s)(hu:qI u s)(hP:P u)(hs:∀x y,(x,y)∈s->x≠y->P x->P y):∀v,qI v s->P v:=by
 have hm:=Gg.1 (h.Gh.1 hu);obtain⟨a,b,rfl⟩:=ado hm;have hr:=h.rot;have hw:Way u (((u,u)::b)++a) u:=hr.way
 have hs':∀x y,(x,y)∈((u,u)::b)++a->P x->P y:=λx y hx hp=>by
  by_cases e:x=y
  ·exact e ▸ hp
  ·exact hs x y (by rw[aaf]at hx ⊢;exact hx.symm) e hp
 rintro v ⟨k,hk,e⟩;have:=ZC hw hP hs' k (by rw[aaf]at hk ⊢;exact hk.symm);rcases e with rfl | rfl
 ·exact this.1
 ·exact this.2
end
def Rj:List Int->Int->List Int
 | [],n=> [n]
 |i::l,n=>if n<i then n::i::l else if n=i then i::l else i::Rj l n
def Hz(out:List Int)(e:Tok):List Int:=if e.1∈out\/e.2∈out then Rj (Rj out e.1) e.2 else out
def yc(l:List Tok)(out:List Int):List Int:=l.foldl Hz out
def yg(l:List Tok):Nat->List Int->List Int
 |0,out=>out
 |n+1,out=>yg l n (yc l out)
def members(l:List Tok)(v:Int):List Int:=yg l l.length [v]
abbrev Rk (l:List Int):Prop:=l.Pairwise (· < ·)
theorem pF{n x:Int} :∀ {l:List Int},x∈Rj l n ↔ x=n\/x∈l
 | []=>by simp[Rj]
 |i::l=>by
  unfold Rj;split
  ·simp
  ·split
   ·rename_i h;subst h;simp
   ·rw[aah,pF (l:=l),aah];constructor
    ·rintro(h | h | h)<;>simp[h]
    ·rintro(h | h | h)<;>simp[h]
theorem Gi{n:Int} :∀ {l:List Int},Rk l->Rk (Rj l n)
 | [],_=>by simp[Rj]
 |i::l,h=>by
  obtain⟨h1,h2⟩:=agz.1 h;unfold Rj;split
  ·rename_i hn;refine agz.2 ⟨λx hx=> ?_,h⟩;rcases aah.1 hx with rfl | hx
   ·exact hn
   ·have:=h1 x hx;omega
  ·split
   ·exact h
   ·refine agz.2 ⟨λx hx=> ?_,Gi h2⟩;rcases pF.1 hx with rfl | hx
    ·omega
    ·exact h1 x hx
theorem Gj{out:List Int}{e:Tok}{x:Int}(h:x∈out):x∈Hz out e:=by
 unfold Hz;split
 ·exact pF.2 (.inr (pF.2 (.inr h)))
 ·exact h
theorem nV{x:Int} :∀ {l:List Tok} {out:List Int},x∈out->x∈yc l out
 | [],_,h=>h
 |_::l,_,h=>nV (l:=l) (Gj h)
theorem Ia:∀ {l:List Tok} {out:List Int},Rk out->Rk (yc l out)
 | [],_,h=>h
 |_::l,_,h=>Ia (l:=l) (by
  unfold Hz;split
  ·exact Gi (Gi h)
  ·exact h)
theorem Eu{l:List Tok} :∀ {n:Nat} {out:List Int},Rk out->Rk (yg l n out)
 |0,_,h=>h
 |n+1,_,h=>Eu (n:=n) (Ia h)
theorem Ib{l:List Tok}{x:Int} :∀ {n:Nat} {out:List Int},x∈out->x∈yg l n out
 |0,_,h=>h
 |n+1,_,h=>Ib (n:=n) (nV h)
def Clo(l:List Tok)(P:Int->Prop):Prop:=∀e,e∈l->(P e.1 ↔ P e.2)
theorem Gl{P:Int->Prop} :∀ {l:List Tok} {out:List Int},Clo l P->(∀x,x∈out->P x)->∀x,x∈yc l out->P x
 | [],_,_,h=>h
 |e::l,_,hc,h=>Gl (l:=l) (λe he=>hc e (acF _ he)) λx hx=>by
  unfold Hz at hx;have he:=hc e aae;split at hx
  ·rename_i hm
   have hb:P e.1/\P e.2:=by
    rcases hm with hm | hm
    ·exact⟨h _ hm,he.1 (h _ hm)⟩
    ·exact⟨he.2 (h _ hm),h _ hm⟩
   rcases pF.1 hx with rfl | hx
   ·exact hb.2
   ·rcases pF.1 hx with rfl | hx
    ·exact hb.1
    ·exact h x hx
  ·exact h x hx
theorem LK{l:List Tok}{P:Int->Prop}(hc:Clo l P):∀ {n:Nat} {out:List Int},(∀x,x∈out->P x)->∀x,x∈yg l n out->P x
 |0,_,h=>h
 |n+1,_,h=>LK hc (n:=n) (Gl hc h)
theorem Ic{e:Tok} :∀ {l:List Tok} {out:List Int},e∈l->(e.1∈out\/e.2∈out)->e.1∈yc l out/\e.2∈yc l out
 |d::l,out,he,hm=>by
  rcases aah.1 he with rfl | he
  ·have h1:e.1∈Hz out e/\e.2∈Hz out e:=by
    unfold Hz;rw[if_pos hm];exact⟨pF.2 (.inr (pF.2 (.inl rfl))),pF.2 (.inl rfl)⟩
   exact⟨nV (l:=l) h1.1,nV (l:=l) h1.2⟩
  ·exact Ic (l:=l) he (hm.imp Gj Gj)
def ins(out:List Int)(e:Tok):Bool:=decide (e.1∈out)&&decide (e.2∈out)
theorem PG{α:Type}{p q:α->Bool} :∀ {l:List α},(∀x,x∈l->p x=true->q x=true)->(∃x,x∈l/\p x=false/\q x=true)->l.countP p<l.countP q
 | [],_,⟨x,h,_⟩=>absurd h aaj
 |a::l,hi,⟨x,hx,h1,h2⟩=>by
  have hle:l.countP p<=l.countP q:=List.countP_mono_left λx hx h=>hi x (acF _ hx) h;rcases aah.1 hx with rfl | hx
  ·rw[ajL (by rw[h1];decide),ahg h2];omega
  ·have ih:=PG (l:=l) (λx hx=>hi x (acF _ hx)) ⟨x,hx,h1,h2⟩;by_cases hp:p a=true
   ·rw[ahg hp,ahg (hi a aae hp)];omega
   ·rw[ajL hp];by_cases hq:q a=true
    ·rw[ahg hq];omega
    ·rw[ajL hq];exact ih
theorem Jm{out:List Int}{e:Tok} :ins out e=true ↔ e.1∈out/\e.2∈out:=by unfold ins;simp
theorem Yd(l:List Tok)(out:List Int):Clo l (· ∈out)\/l.countP (ins out)<l.countP (ins (yc l out)):=by
 by_cases hc:Clo l (· ∈out)
 ·exact .inl hc
 ·right;have:∃e,e∈l/\¬ (e.1∈out ↔ e.2∈out):=adr λhn=>hc λe he=>adr λh=>hn ⟨e,he,h⟩;obtain⟨e,he,dL⟩:=this;refine PG (λx _ h=> ?_) ⟨e,he, ?_, ?_⟩
  ·rw[Jm]at h ⊢;exact⟨nV h.1,nV h.2⟩
  ·rw[Bool.eq_false_iff];intro h;rw[Jm]at h;exact dL ⟨λ_=>h.2,λ_=>h.1⟩
  ·rw[Jm];refine Ic he ?_;by_cases h1:e.1∈out
   ·exact .inl h1
   ·by_cases h2:e.2∈out
    ·exact .inr h2
    ·exact absurd ⟨λh=>absurd h h1,λh=>absurd h h2⟩ dL
theorem aci{l:List Tok}{out:List Int}(h:Clo l (· ∈out)):∀x,x∈yc l out ↔ x∈out:=λx=>⟨Gl h (λ_ hx=>hx) x,nV⟩
theorem acj{l:List Tok}{a b:List Int}(h:∀x,x∈a ↔ x∈b)(hc:Clo l (· ∈b)):Clo l (· ∈a):=λe he=>by
 have:=hc e he;simp only at this ⊢;rw[h,h];exact this
theorem Ie(l:List Tok):∀ (n:Nat) (out:List Int),l.length<=n+l.countP (ins out)->Clo l (· ∈yg l n out)
 |0,out,h=>λe he=>by
  have h1:l.countP (ins out)=l.length:=Nat.le_antisymm List.countP_le_length (by omega);have h2:=List.countP_eq_length.1 h1 e he;rw[Jm]at h2;exact⟨λ_=>h2.2,λ_=>h2.1⟩
 |n+1,out,h=>by
  rcases Yd l out with hc | hc
  ·have au:∀ (n:Nat) (o:List Int),Clo l (· ∈o)->Clo l (· ∈yg l n o):=by
    intro n
    induction n with
    |zero=>exact λo h=>h
    |succ n ih=>exact λo h=>ih _ (acj (aci h) h)
   exact au (n+1) out hc
  ·exact Ie l n (yc l out) (by omega)
theorem jf(l:List Tok)(v:Int):Clo l (· ∈members l v):=Ie l l.length [v] (by omega)
theorem kJ(l:List Tok)(v:Int):Rk (members l v):=Eu (List.pairwise_singleton _ _)
theorem fC(l:List Tok)(v:Int):v∈members l v:=Ib aae
theorem kK{l:List Tok}{v:Int}{P:Int->Prop}(hc:Clo l P)(hv:P v):∀x,x∈members l v->P x:=LK hc λx hx=>by
 rw[acI]at hx;exact hx ▸ hv
theorem Ew:∀ {a b:List Int},Rk a->Rk b->(∀x,x∈a ↔ x∈b)->a=b
 | [], [],_,_,_=>rfl
 | [],j::b,_,_,h=>absurd ((h j).2 aae) aaj
 |i::a, [],_,_,h=>absurd ((h i).1 aae) aaj
 |i::a,j::b,ha,hb,h=>by
  obtain⟨a1,a2⟩:=agz.1 ha;obtain⟨b1,b2⟩:=agz.1 hb
  have e:i=j:=by
   rcases aah.1 ((h i).1 aae)with e | e
   ·exact e
   ·rcases aah.1 ((h j).2 aae)with e2 | e2
    ·exact e2.symm
    ·have:=b1 i e;have:=a1 j e2;omega
  subst e;rw[Ew a2 b2 λx=> ?_];constructor
  ·intro hx;rcases aah.1 ((h x).1 (acF _ hx))with e | e
   ·have:=a1 x hx;omega
   ·exact e
  ·intro hx;rcases aah.1 ((h x).2 (acF _ hx))with e | e
   ·have:=b1 x hx;omega
   ·exact e
structure TF(f:List (List Tok))(m:List Tok):Prop where
 oG:∀s,s∈f->pz s/\2<=s.length
 nd:f.flatten.Nodup
 edge:∀x y,(x,y)∈m ↔ x<y/\(x,y)∈f.flatten
section
variable {f:List (List Tok)}{m s s':List Tok}{u v:Int}
theorem LM:∀ {f:List (List Tok)},f.flatten.Nodup->∀ {s s':List Tok} {k:Tok},s∈f->s'∈f->k∈s->k∈s'->s=s'
 | [],_,_,_,_,h,_,_,_=>absurd h aaj
 |a::f,hn,s,s',k,h1,h2,k1,k2=>by
  rw[agO,acG]at hn;obtain⟨n1,n2,n3⟩:=hn;rcases aah.1 h1 with rfl | h3
  ·rcases aah.1 h2 with rfl | h4
   ·rfl
   ·exact absurd rfl (n3 k k1 k (ac2.2 ⟨_,h4,k2⟩))
  ·rcases aah.1 h2 with rfl | h4
   ·exact absurd rfl (n3 k k2 k (ac2.2 ⟨_,h3,k1⟩))
   ·exact LM n2 h3 h4 k1 k2
theorem TF.Vf(h:TF f m)(h1:s∈f)(h2:s'∈f)(i1:qI v s)(i2:qI v s'):s=s':=
 LM h.nd h1 h2 (Gg.1 ((h.oG s h1).1.Gh.1 i1)) (Gg.1 ((h.oG s' h2).1.Gh.1 i2))
theorem TF.clo(h:TF f m)(hs:s∈f):Clo m (λx=>qI x s):=fun⟨x,y⟩ he=>by
 obtain⟨_,h2⟩:=(h.edge x y).1 he;obtain⟨s',h3,h4⟩:=ac2.1 h2;have i:=eX h4;constructor
 ·intro hx;exact h.Vf h3 hs i.1 hx ▸ i.2
 ·intro hx;exact h.Vf h3 hs i.2 hx ▸ i.1
theorem TF.wU(h:TF f m)(hs:s∈f)(hv:qI v s):∀x,x∈members m v ↔ qI x s:=λx=>by
 constructor
 ·exact kK (P:=λx=>qI x s) (h.clo hs) hv x
 ·intro hx;refine ach (P:=λx=>x∈members m v) (h.oG s hs).1 hv (fC m v) (λa b VG dL ha=> ?_) x hx;have hf:(a,b)∈f.flatten:=ac2.2 ⟨s,hs,VG⟩;have yK:(b,a)∈f.flatten:=ac2.2 ⟨s,hs,((h.oG s hs).1.rev a b VG).1⟩;by_cases hlt:a<b
  ·exact(jf m v (a,b) ((h.edge a b).2 ⟨hlt,hf⟩)).1 ha
  ·exact(jf m v (b,a) ((h.edge b a).2 ⟨by omega,yK⟩)).2 ha
theorem TF.alone(h:TF f m)(hv:(v,v) ∉ f.flatten):members m v= [v]:=by
 refine Ew (kJ m v) (List.pairwise_singleton _ _) λx=>⟨λhx=> ?_,λhx=> ?_⟩
 ·have iL:∀e,e∈m->e.1≠v/\e.2≠v:=fun⟨a,b⟩ he=>by
   obtain⟨_,h2⟩:=(h.edge a b).1 he;obtain⟨s',h3,h4⟩:=ac2.1 h2;have ht:=(h.oG s' h3).1;obtain⟨r1,r2⟩:=ht.rev a b h4;obtain⟨_,r3⟩:=ht.rev b a r1;refine⟨λe=>hv (ac2.2 ⟨s',h3, ?_⟩),λe=>hv (ac2.2 ⟨s',h3, ?_⟩)⟩
   ·simp only at e;exact e ▸ r2
   ·simp only at e;exact e ▸ r3
  have:=kK (P:=λx=>x=v) (l:=m) (v:=v) (λe he=>⟨λh=>absurd h (iL e he).1,λh=>absurd h (iL e he).2⟩) rfl x hx;rw[this];exact acI.2 rfl
 ·rw[acI.1 hx];exact fC m v
end
end Sq
