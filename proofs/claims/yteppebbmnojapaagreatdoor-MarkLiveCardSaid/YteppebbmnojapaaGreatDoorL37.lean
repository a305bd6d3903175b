/- Part of this proof. -/
import Derived.Test.YteppebbmnojapaaGreatDoorL36
set_option maxRecDepth 100000
set_option maxHeartbeats 8000000
namespace Go.Proofs.YteppebbmnojapaaGreatDoor
open Go.RowKit Go.Shelf Go.Maps
def F8(w:World)(e:Ending)(w':World):Prop:=e= .returned (.bool true)/\Below w.heap.size w w'
section
variable {w0 W W':World}{f0 d0 n N t u D T K k b0 R0:Nat}{disk:Tp.aA}{P root:Int}{es:List Ent}{tok:Nat}{ids:List Int}
structure Gng(w0:World)(f0 d0 n N t u:Nat)(disk:Tp.aA)(P:Int)(D T K k b0 R0:Nat)(es:List Ent)(W:World):Prop where
 ex:∃ (F:aT) (a:TAd),F.f=f0/\F.d=d0/\F.k+1000<maxLen/\w0.heap.size<=F.B/\FOn F n disk N/\a.t=t/\a.u=u/\InG w0 F n a (Rp.minus [(2,P-1)] []) disk P D T K k b0 R0 es W
 low:vO disk [] P
 p:2<=P/\P+D<=n
theorem XL(D T K:Nat)(h:Beg w0 f0 d0 n N (288*K+R0) t disk P W)(hn:n<=16384)(hv:Tp.bH disk root es tok ids)(htl:tok<=T)(hTK:T+K<=1000)(hPD:P+D<=n):
  Calls Tryz.prog 18 #[.pointer (some ⟨t,0,none⟩), .int .i64 root] W fun e w'=>∃u,e= .returned (.pointer (some ⟨u,0,none⟩))/\Gng w0 f0 d0 n N t u disk P D T K 0 w'.heap.size R0 es w'/\Below W.heap.size W w'/\W.heap.size<=u:=by
 obtain⟨⟨F,B,m,e1,e2,e3,e4,e5,e6,e7,e8⟩,h1,h2,h3,h4⟩:=h
 have hdB:F.B<=F.d:=by
  obtain⟨R,_,_,hA⟩:=e5.file
  exact hA.disk.le.1
 refine(Qn (root:=root) e5 e6 hv (by omega) (fun x y h=>by obtain⟨cc,c1,c2⟩:=e4.c;exact(c2 x y h).2.1) hn h2).mono ?_
 rintro e w5 ⟨a,rfl,q1,q2,hst5,hu5,b5⟩
 refine⟨a.u,rfl,⟨⟨F,a,e1,e2,e3,e8,e4,q1,rfl,InG.start (hst5.less (by omega)) (by omega) (Int.le_refl _) (fun x hx=> ?_) (h4.trans (b5.mono h4.size))⟩,h2,h3.1,hPD⟩,b5,hu5⟩
 rcases hx with(rfl | rfl | rfl) | rfl
 ·rw[q1];exact h1
 ·rw[q2];exact e7
 ·omega
 ·exact Nat.le_trans h4.size hu5
theorem Z8(h:Gng w0 f0 d0 n N t u disk P D T K k b0 R0 es W)(hk:k<K)(hT:T+K<=1000)(hD:6*(T+K)+90<=5*D){s v:ByteArray}(hm:En.may s v=true):
  Calls Tryz.prog 65 #[.pointer (some ⟨u,0,none⟩), .string s, .string v] W fun e W'=>e= .returned (.int .i64 0)/\Gng w0 f0 d0 n N t u disk P D T K (k+1) b0 R0 (En.put es s v) W'/\lQ W W'/\∀g ty cs,b0<=g->Blk W g ty cs->Blk W' g ty cs:=by
 obtain⟨⟨F,a,e1,e2,e3,e4,e5,e6,rfl,h1⟩,h2,h3⟩:=h
 refine(Iz h1 hk hT hD (qA h3.1 []) h3.2 hm).mono ?_
 rintro e W' ⟨rfl,g1,g2,g3⟩
 exact⟨rfl,⟨⟨F,a,e1,e2,e3,e4,e5,e6,rfl,g1⟩,h2,h3⟩,g3,fun g ty cs hg hb=>g2.blk hb (fun hx=>by have:=h1.low g hx;omega)⟩
end
structure AllOf(v:Int->Option Nd.Node)(rs all:List Int):Prop where
 inn:∀x∈all,∃root es tok ids,root∈rs/\Tp.bH v root es tok ids/\x∈ids/\∀y∈ids,y∈all
 root:∀x∈rs,x=0\/x∈all
end Go.Proofs.YteppebbmnojapaaGreatDoor
namespace Mk
open Nd En Tp
def push:List Int->List Int->List Int->List Int × List Int
 |met,st, []=>(met,st)
 |met,st,i::r=>if i≠0/\i ∉ met then push (met++ [i]) (st++ [i]) r else push met st r
def Qs(v:Int->Option Node)(met st:List Int)(id:Int):Option (List Int × List Int):=(v id).map fun n=>push met st n.kids
def run(v:Int->Option Node):Nat->List Int->List Int->List Int->Option (List Int)
 |0,_,_,_=>none
 |f+1,met,st,out=>match st.getLast? with
  |none=>some out
  |some id=>match Qs v met st.dropLast id with
   |none=>none
   |some (met',st')=>run v f met' st' (out++ [id])
structure Inv(v:Int->Option Node)(C:Int->Prop)(roots met st out:List Int):Prop where
 mem:∀x,x∈met ↔ x∈out\/x∈st
 nd:(out++st).Nodup
 inn:∀x∈met,C x
 kid:∀x∈out,∀n,v x=some n->∀k∈n.kids,k=0\/k∈met
 root:∀x∈roots,x=0\/x∈met
theorem pR:∀ (l met st:List Int),∃new,push met st l=(met++new,st++new)/\new.Nodup/\(∀x∈new,x∈l/\x≠0/\x ∉ met)/\∀x∈l,x=0\/x∈met\/x∈new
 | [],met,st=>⟨[],by simp[push],List.nodup_nil,fun x h=>absurd h List.not_mem_nil,fun x h=>absurd h List.not_mem_nil⟩
 |i::r,met,st=>by
  unfold push
  split
  ·rename_i h
   obtain⟨new,e,h1,h2,h3⟩:=pR r (met++ [i]) (st++ [i])
   refine⟨i::new,by rw[e];simp,List.nodup_cons.2 ⟨fun hm=>(h2 i hm).2.2 (by simp),h1⟩,fun x hx=> ?_,fun x hx=> ?_⟩
   ·rcases List.mem_cons.1 hx with rfl | hx
    ·exact⟨List.mem_cons_self,h.1,h.2⟩
    ·obtain⟨a,b,c⟩:=h2 x hx
     exact⟨List.mem_cons_of_mem _ a,b,fun hm=>c (List.mem_append_left _ hm)⟩
   ·rcases List.mem_cons.1 hx with rfl | hx
    ·exact .inr (.inr List.mem_cons_self)
    ·rcases h3 x hx with a | a | a
     ·exact .inl a
     ·rcases List.mem_append.1 a with a | a
      ·exact .inr (.inl a)
      ·exact .inr (.inr (by rw[List.mem_singleton.1 a];exact List.mem_cons_self))
     ·exact .inr (.inr (List.mem_cons_of_mem _ a))
  ·rename_i h
   obtain⟨new,e,h1,h2,h3⟩:=pR r met st
   refine⟨new,e,h1,fun x hx=>⟨List.mem_cons_of_mem _ (h2 x hx).1,(h2 x hx).2⟩,fun x hx=> ?_⟩
   rcases List.mem_cons.1 hx with rfl | hx
   ·by_cases h0:x=0
    ·exact .inl h0
    ·exact .inr (.inl (by
      by_cases hm:x∈met
      ·exact hm
      ·exact absurd ⟨h0,hm⟩ h))
   ·exact h3 x hx
theorem inv_start{v:Int->Option Node}{C:Int->Prop}(roots:List Int)(hC:∀x∈roots,x=0\/C x):∃new,push [] [] roots=(new,new)/\Inv v C roots new new []:=by
 obtain⟨new,e,h1,h2,h3⟩:=pR roots [] []
 refine⟨new,by rw[e];simp,⟨fun x=>by simp,by simpa using h1,fun x hx=> ?_,fun x hx=>absurd hx List.not_mem_nil,fun x hx=> ?_⟩⟩
 ·obtain⟨a,b,_⟩:=h2 x hx
  exact(hC x a).resolve_left b
 ·rcases h3 x hx with a | a | a
  ·exact .inl a
  ·exact absurd a List.not_mem_nil
  ·exact .inr a
theorem Inv.step{v:Int->Option Node}{C:Int->Prop}{roots met st out:List Int}{id:Int}{n:Node}(h:Inv v C roots met (st++ [id]) out)(hv:v id=some n)(hk:∀k∈n.kids,k=0\/C k):∃met' st',Qs v met st id=some (met',st')/\Inv v C roots met' st' (out++ [id]):=by
 obtain⟨new,e,h1,h2,h3⟩:=pR n.kids met st
 refine⟨met++new,st++new,by unfold Qs;rw[hv];show some (push met st n.kids)=_;rw[e],⟨fun x=> ?_, ?_,fun x hx=> ?_,fun x hx n' hn' k hk'=> ?_,fun x hx=> ?_⟩⟩
 ·rw[List.mem_append,h.mem,List.mem_append,List.mem_append,List.mem_append]
  simp only[List.mem_singleton]
  constructor
  ·rintro((a | a | a) | a)
   ·exact .inl (.inl a)
   ·exact .inr (.inl a)
   ·exact .inl (.inr a)
   ·exact .inr (.inr a)
  ·rintro((a | a) | (a | a))
   ·exact .inl (.inl a)
   ·exact .inl (.inr (.inr a))
   ·exact .inl (.inr (.inl a))
   ·exact .inr a
 ·have hnd:=h.nd
  have hp:(out++ [id]++(st++new)).Perm ((out++(st++ [id]))++new):=by
   rw[List.append_assoc,List.append_assoc]
   refine List.Perm.append_left _ ?_
   rw[<-List.append_assoc]
   exact(List.perm_append_comm).append_right _
  rw[hp.nodup_iff,List.nodup_append]
  refine⟨hnd,h1,fun x hx y hy e=> ?_⟩
  subst e
  refine(h2 x hy).2.2 ((h.mem x).2 ?_)
  rcases List.mem_append.1 hx with a | a
  ·exact .inl a
  ·exact .inr a
 ·rcases List.mem_append.1 hx with a | a
  ·exact h.inn x a
  ·obtain⟨b,c,_⟩:=h2 x a
   exact(hk x b).resolve_left c
 ·rcases List.mem_append.1 hx with a | a
  ·rcases h.kid x a n' hn' k hk' with b | b
   ·exact .inl b
   ·exact .inr (List.mem_append_left _ b)
  ·obtain rfl:=List.mem_singleton.1 a
   rw[hv]at hn'
   cases hn'
   rcases h3 k hk' with b | b | b
   ·exact .inl b
   ·exact .inr (List.mem_append_left _ b)
   ·exact .inr (List.mem_append_right _ b)
 ·rcases h.root x hx with a | a
  ·exact .inl a
  ·exact .inr (List.mem_append_left _ a)
theorem tH{v:Int->Option Node} :∀ {h:Nat} {lo hi:Option Str} {s:Sub},Tr v h lo hi s->∀x∈s.ids,∃n,v x=some n/\∀k∈n.kids,k∈s.ids
 |0,_,_,s,hs,x,hx=>by
  obtain⟨a,b,_⟩:=hs
  rw[b]at hx
  obtain rfl:x=s.id:=by simpa using hx
  exact⟨_,a,fun k hk=>by simp[aG]at hk⟩
 |h+1,_,_,s,hs,x,hx=>by
  obtain⟨subs,keys,a,b,c,d,e,f,g⟩:=hs
  rw[c]at hx ⊢
  rcases List.mem_cons.1 hx with rfl | hx
  ·refine⟨_,a,fun k hk=> ?_⟩
   obtain⟨t,ht,rfl⟩:=List.mem_map.1 (show k∈subs.map (·.id)from hk)
   obtain⟨l,h',hp⟩:=fD g t ht
   exact List.mem_cons_of_mem _ (iR ht (o9 hp))
  ·unfold aI at hx
   obtain⟨t,ht,hx⟩:=List.mem_flatMap.1 hx
   obtain⟨l,h',hp⟩:=fD g t ht
   obtain⟨n,n1,n2⟩:=tH hp x hx
   exact⟨n,n1,fun k hk=>List.mem_cons_of_mem _ (iR ht (n2 k hk))⟩
theorem XM{v:Int->Option Node}{X:Int->Prop}(hX:∀x,X x->∀n,v x=some n->∀k∈n.kids,X k):∀ {h:Nat} {lo hi:Option Str} {s:Sub},Tr v h lo hi s->X s.id->∀x∈s.ids,X x
 |0,_,_,s,hs,h0,x,hx=>by
  obtain⟨a,b,_⟩:=hs
  rw[b]at hx
  obtain rfl:x=s.id:=by simpa using hx
  exact h0
 |h+1,_,_,s,hs,h0,x,hx=>by
  obtain⟨subs,keys,a,b,c,d,e,f,g⟩:=hs
  rw[c]at hx
  rcases List.mem_cons.1 hx with rfl | hx
  ·exact h0
  ·unfold aI at hx
   obtain⟨t,ht,hx⟩:=List.mem_flatMap.1 hx
   obtain⟨l,h',hp⟩:=fD g t ht
   exact XM hX hp (hX _ h0 _ a t.id (List.mem_map.2 ⟨t,ht,rfl⟩)) x hx
theorem Inv.done{v:Int->Option Node}{C:Int->Prop}{roots met out:List Int}(h:Inv v C roots met [] out){root:Int}{es:List En.Ent}{tok:Nat}{ids:List Int}(hr:root∈roots)(hv:bH v root es tok ids)(hp:∀i∈ids,0<i):∀x∈ids,x∈out:=by
 rcases hv with⟨_,_,rfl⟩ | ⟨hh,s,rfl,rfl,rfl,_,ht,_⟩
 ·exact fun x hx=>absurd hx List.not_mem_nil
 ·have hmo:∀x,x∈met ↔ x∈out:=fun x=>by rw[h.mem];simp
  have hroot:s.id∈out:=by
   rcases h.root _ hr with a | a
   ·have:=hp _ (o9 ht);omega
   ·exact(hmo _).1 a
  have key:∀x∈s.ids,x∈out/\x∈s.ids:=XM (X:=fun x=>x∈out/\x∈s.ids) (fun x hx n hn k hk=>by
   obtain⟨n',n1,n2⟩:=tH ht x hx.2
   rw[hn]at n1
   cases n1
   have hks:=n2 k hk
   rcases h.kid x hx.1 n hn k hk with a | a
   ·have:=hp k hks;omega
   ·exact⟨(hmo _).1 a,hks⟩) ht ⟨hroot,o9 ht⟩
  exact fun x hx=>(key x hx).1
end Mk
namespace Go.Proofs.YteppebbmnojapaaGreatDoor
open Go.RowKit Go.Shelf
def Uj(v:Value):Option (DataW Value × List MemPlace):=
 match v with
 | .bool _=>some (.held v, [])
 |_=>none
theorem Qu(b:Bool):Uj (.bool b)=some (.held (.bool b), []):=rfl
theorem XO{v:Value}{z:DataW Value × List MemPlace}(h:Uj v=some z):∃b,v= .bool b/\z=(.held (.bool b), []):=by
 unfold Uj at h
 split at h
 ·rename_i b;exact⟨b,rfl,by cases h;rfl⟩
 ·cases h
def zF(D:DataW Value)(met:List Int):Prop:=∀ (i:Int) (z:DataW Value),D.atKey (.int .i64 i) z=if i∈met then .held (.bool true)else z
theorem zF.nil:zF (.map []) []:=fun i z=>by simp[DataW.atKey]
theorem zF.put{D:DataW Value}{met:List Int}(h:zF D met)(hm:Maps.IsMap D)(i:Int):zF (D.put (.int .i64 i) (.held (.bool true))) (met++ [i]):=by
 intro j z
 by_cases e:j=i
 ·subst e
  rw[Maps.atKey_put_same hm (by trivial)];simp
 ·have hne:(Lit.int .i64 j)≠ .int .i64 i:=by intro e2;injection e2 with _ e2;exact e e2
  rw[Maps.atKey_put_other hne,h j z];simp[e]
section
variable {w w':World}
theorem XP{m j:Nat}{Dm:DataW Value}{met:List Int}(ho:w.ownsMap Tryz.prog 3 Uj m j Dm)(hmet:zF Dm met){id:Int}(hw:(Lit.int .i64 id).wf=true):
  (Instr.lookup 245 (.map (some m)) (.int .i64 id) false).run Tryz.prog w= .ok (.bool (decide (id∈met))) w:=by
 obtain⟨v,ps,hlook,hv⟩:=ho.lookup jg Tryz.underlying245 (Tryz.zeroValue4 w) (Qu false) (qN hw)
 obtain⟨b,rfl,hz⟩:=XO hv
 rw[hmet id]at hz
 have:b=decide (id∈met):=by
  have hz:=(Prod.mk.inj hz).1
  by_cases hm:id∈met
  ·rw[if_pos hm]at hz;injection hz with hz;injection hz with hz;rw[decide_eq_true hm];exact hz.symm
  ·rw[if_neg hm]at hz;injection hz with hz;injection hz with hz;rw[decide_eq_false hm];exact hz.symm
 rw[this]at hlook
 exact hlook
structure Mrd(S:Nat->Prop)(B t K:Nat)(disk:Tp.aA)(TM:Nat->Tp.Pst->World->Prop):Prop where
 low:∀k,S k->k<B
 size:∀ {r σ w},TM r σ w->B<=w.heap.size
 up:∀ {r σ w w' S'},TM r σ w->Fr S' w w'->abH B w S'->TM r σ w'
 less:∀ {r r' σ w},TM r σ w->r'<=r->TM r' σ w
 ht:∀ {r σ w id n},TM r σ w->σ.view disk id=some n->Nd.fits n=true/\fJ id
 get:∀ {r σ w id n},TM (r+1) σ w->σ.view disk id=some n->∀k:Nat,(n.leaf=true->k=1)->(n.leaf=false->k=2)->
  Calls Tryz.prog 212 #[.pointer (some ⟨t,0,none⟩), .int .i64 id, .int .u8 k] w fun e w'=>e= .returned (.tuple #[.string (Nd.str (Nd.enc n)), .int .i64 0])/\TM r σ w'/\Fr S w w'
 Ia:∀ {r σ w id n},TM (r+1) σ w->σ.view disk id=some n->n.leaf=false->
  Calls Tryz.prog 212 #[.pointer (some ⟨t,0,none⟩), .int .i64 id, .int .u8 1] w fun e w'=>e= .returned (.tuple #[.string ⟨#[]⟩, .int .i64 3])/\TM r σ w'/\Fr S w w'
 map:∀ {r σ w w'} {g:Nat} {es:Array MapEntry} {c:Nat},TM r σ w->B<=g->w.heap[g]? =some (.map es c)->Fr (fun k=>k=g) w w'->TM r σ w'
 run:∀ {r σ w w'} {g:Nat} {cs:Array Value},TM r σ w->K<=g->Blk w g 64 cs->Fr (fun k=>k=g) w w'->TM r σ w'
section
variable {S S':Nat->Prop}{B t K:Nat}{disk:Tp.aA}{TM:Nat->Tp.Pst->World->Prop}{r:Nat}{σ:Tp.Pst}{bad:Int->Prop}
theorem Mrd.below(M:Mrd S B t K disk TM)(h:TM r σ w)(hb:Below w.heap.size w w'):TM r σ w':=M.up (S':=fun _=>False) h (.of_below hb) (fun _ hk=>hk.elim)
theorem Mrd.own(M:Mrd S B t K disk TM){g:Nat}{ty:TypeId}{cs:Array Value}(h:TM r σ w)(hf:Fr (fun k=>k=g) w w')(hB:Blk w g ty cs)(hg:B<=g)(h1:ty≠64)(h2:ty≠122)(h3:ty≠119)(h4:ty≠117):TM r σ w':=
 M.up h hf (fun k hk=>by
  subst hk
  refine⟨hg,fun o ho=> ?_⟩
  have e:o= .cells cs ty:=by have:=ho.symm.trans hB;injection this
  subst e
  exact⟨fun cs' e=>by injection e with _ e;exact h1 e,fun cs' e=>by injection e with _ e;exact h2 e,fun cs' e=>by injection e with _ e;exact h3 e,fun cs' e=>by injection e with _ e;exact h4 e,fun _ _ e=>by cases e⟩)
theorem Mrd.row(M:Mrd S B t K disk TM){b e s n:Nat}{v:Value}{xs:List Value}(h:TM r σ w)(ho:w.ownsRow b e s v n xs)(hb:B<=b)(h1:e≠64)(h2:e≠122)(h3:e≠119)(h4:e≠117)(hg:w.grownBy w' v.ownBlock):TM r σ w':=by
 refine M.up h (Fr.bW hg) (fun k hk=> ?_)
 obtain⟨cs,hcs⟩:=fG ho hk
 refine⟨Nat.le_trans hb (World.ownsRow.lt ho k hk).1,fun o h=> ?_⟩
 have e:o= .cells cs e:=by have:=h.symm.trans hcs;injection this
 subst e
 exact⟨fun cs' e=>by injection e with _ e;exact h1 e,fun cs' e=>by injection e with _ e;exact h2 e,fun cs' e=>by injection e with _ e;exact h3 e,fun cs' e=>by injection e with _ e;exact h4 e,fun _ _ e=>by cases e⟩
theorem XQ(M:Mrd S B t K disk TM)(hbad:OJ S t TM bad)(r:Nat)(σ:Tp.Pst)(id:Int)(hok:(∃n,σ.view disk id=some n)\/(σ.view disk id=none/\bad id)):
  (∃n,σ.view disk id=some n/\n.leaf=true/\Z7 S t TM (r+1) σ id 1 (Nd.str (Nd.enc n)) 0)\/
  (Z7 S t TM (r+1) σ id 1 ⟨#[]⟩ 3/\((∃n,σ.view disk id=some n/\n.leaf=false/\Z7 S t TM r σ id 2 (Nd.str (Nd.enc n)) 0)\/(σ.view disk id=none/\Z7 S t TM r σ id 2 ⟨#[]⟩ 3))):=by
 rcases hok with⟨n,hv⟩ | ⟨hv,hb⟩
 ·cases hl:n.leaf with
  |true=>exact .inl ⟨n,hv,hl,fun w h=>M.get h hv 1 (fun _=>rfl) (fun e=>by rw[hl]at e;cases e)⟩
  |false=>exact .inr ⟨fun w h=>M.Ia h hv hl, .inl ⟨n,hv,hl,fun w h=>M.get h hv 2 (fun e=>by rw[hl]at e;cases e) (fun _=>rfl)⟩⟩
 ·exact .inr ⟨fun w h=>hbad h hb 1 (.inl rfl), .inr ⟨hv,fun w h=>hbad h hb 2 (.inr rfl)⟩⟩
end
structure TMr(F:aT)(B t m n K:Nat)(used:List Run)(disk:Tp.aA)(r:Nat)(σ:Tp.Pst)(w:World):Prop where
 tm:TMd F B t m n used disk r σ w
 free:∃v,w.cell? ⟨t,1,none⟩=some v/\∀g,v.ownBlock=some g->g<K
section
variable {F:aT}{B t m n K r r':Nat}{used:List Run}{disk:Tp.aA}{σ σ':Tp.Pst}{S':Nat->Prop}
theorem TMd.tmr(h:TMd F B t m n used disk r σ w):TMr F B t m n w.heap.size used disk r σ w:=by
 obtain⟨D,⟨_,⟨v,h4,h5⟩,_⟩,_⟩:=h.mem.txn
 exact⟨h,v,h4.cell 1,fun g hg=>(World.ownsRow.lt h5 g hg).2⟩
theorem TMr.cell(h:TMr F B t m n K used disk r σ w)(hf:Fr S' w w')(hn:¬S' t):∃v,w'.cell? ⟨t,1,none⟩=some v/\∀g,v.ownBlock=some g->g<K:=by
 obtain⟨v,h1,h2⟩:=h.free
 exact⟨v,(hf.cell (p:=⟨t,1,none⟩) (Nat.lt_of_lt_of_le h.tm.low.1 h.tm.low.2.2) hn).trans h1,h2⟩
theorem TMr.turn(h:TMr F B t m n K used disk r σ w){g:Nat}(hf:Fr (fun k=>k=g) w w')(hg:B<=g)(hfr:∀b,(∃v,w.cell? ⟨t,1,none⟩=some v/\v.ownBlock=some b)->(∃cs,w.heap[b]? =some (.cells cs 64 (0,0)))->b≠g):TMr F B t m n K used disk r σ w':=by
 refine⟨?_,h.cell hf (fun e=>by have:=h.tm.low.1;omega)⟩
 obtain⟨⟨h1,h2,h3,h4,⟨g1,g2,D,g3,g4⟩,h6,R,r1,r2,r3⟩,_⟩:=h
 have hnb:∀b,F.J6 b->¬b=g:=fun b hb a=>by have:=(h2 b hb).1;omega
 have key:∀ {b:Nat} {o:Obj},w.heap[b]? =some o->b≠g->w'.heap[b]? =some o:=fun {b o} ho hn=>(hf.block b (Array.getElem?_eq_some_iff.1 ho).1 hn).trans ho
 have hdn:=hnb F.d (.inr (.inl rfl))
 have hfn:=hnb F.f (.inl rfl)
 have hR:=r3.fr hf hnb
 refine⟨⟨h1.1,h1.2.1,Nat.le_trans h1.2.2 hf.size⟩,h2,h3,h4.fr hf (fun a=>by omega),⟨g1,g2,D, ?_,g4⟩,h6,R,r1,r2,hR⟩
 obtain⟨_,⟨v,q4,q5⟩,es',ck,q6,q7⟩:=g3
 refine⟨h6.size ▸ hR.fileOf,⟨v,key q4 (by omega), ?_⟩,es',ck,key q6 (by omega),q7⟩
 rcases q5 with⟨e1,e2 | ⟨b,cap,cur,hv,hb,hh,hr⟩⟩
 ·exact⟨e1, .inl e2⟩
 ·exact⟨e1, .inr ⟨b,cap,cur,hv,hb,key hh (hfr b ⟨v,(Blk.cell q4 1),by rw[hv];rfl⟩ ⟨cur,hh⟩),hr⟩⟩
theorem TMd.bG(h:TMd F B t m n used disk (r+1) σ w){id:Int}{x:Nd.Node}(h1:id ∉ σ.mine)(h2:2<=id)(h3:id<σ.pages)(h4:Rp.has σ.free id=false)(h5:disk id=some x)(k:Nat):
  Calls Tryz.prog 212 #[.pointer (some ⟨t,0,none⟩), .int .i64 id, .int .u8 k] w fun e w'=>e= .returned (if Nd.kind x=k then .tuple #[.string (Nd.str (Nd.enc x)), .int .i64 0]else .tuple #[.string ⟨#[]⟩, .int .i64 3])/\TMd F B t m n used disk r σ w'/\Fr (fun g=>g=F.d) w w':=by
 obtain⟨b1,b2,b3,b4,⟨g1,g2,D,g3,g4,g5⟩,b6,R,r1,r2,r3⟩:=h
 obtain⟨p1,p2,p3⟩:=b6.page _ _ h5
 have hp:=g1.pg
 have hu:=g1.hu id p2
 have hnn:id<(n:Int):=by omega
 have hno:aS F.D.sure.length id=false:=by unfold aS;rw[b6.size];simp;omega
 have hsm:=kT g1
 have hlt:=r3.disk.self.lt
 have hle:=r3.disk.le.1
 refine(Ws t m n _ _ _ D id k (by exact(show fJ id by unfold fJ;omega).wf) (by rw[g4.has];exact decide_eq_false h1) h2 h3 h4 hsm.1 w g3 r3 (b6.fine ⟨r1,by omega⟩) b4 b3.1 (by omega) (some (Nd.kind x,Nd.enc x)) (fun _ _=>J7 p3)).mono ?_
 rintro e w' ⟨rfl,q1,q2⟩
 have hrd:Dk.bG { F.D with reads:=R } id= { F.D with reads:=R+1 } :=by
  unfold Dk.bG
  rw[if_neg (by show ¬aS F.D.sure.length id=true;rw[hno];decide),if_neg (by show ¬F.D.down=true;rw[b6.down];decide)]
 rw[hrd]at q1
 have hR:F.At w' (R+1):=q1
 refine⟨?_,⟨⟨b1.1,b1.2.1,Nat.le_trans b1.2.2 q2.size⟩,b2,b3,b4.fr q2 (fun a=>by omega),⟨g1,g2,D,g3.read q2 r3 hR b6.size,g4,g5⟩,b6,R+1,by omega,by omega,hR⟩,q2⟩
 have e1:frB F.D.sure.length F.D.down id k (some (Nd.kind x,Nd.enc x))=if Nd.kind x=k then(Nd.enc x,0)else([],3):=by
  unfold frB
  rw[hno,b6.down]
  rfl
 show Ending.returned (.tuple #[str (frB F.D.sure.length F.D.down id k (some (Nd.kind x,Nd.enc x))).1, .int .i64 (frB F.D.sure.length F.D.down id k (some (Nd.kind x,Nd.enc x))).2])=_
 rw[e1]
 split
 ·rfl
 ·rfl
end
theorem Le(F:aT){B t m:Nat}(ht:t<B)(hd:F.d<B)(hdt:F.d≠t)(n K:Nat)(hK:B<=K)(used:List Run)(disk:Tp.aA):Mrd (fun g=>g=F.d) B t K disk (TMr F B t m n K used disk) where
 low:=fun k a=>by subst a;exact hd
 size:=fun h=>h.tm.low.2.2
 up:=fun {r σ w w' S'} h hf hS=>⟨h.tm.up hf hS,h.cell hf (fun a=>by have:=(hS t a).1;omega)⟩
 less:=fun h hr=>⟨h.tm.less hr,h.free⟩
 ht:=fun h hv=>h.tm.ht_ hv
 get:=fun {r σ w id x} h hv k h1 h2=>by
  rcases jm hv with⟨a1,a2⟩ | ⟨a1,a2,a3,a4,a5⟩
  ·refine(h.tm.mem.get a1 a2 k h1 h2).mono ?_
   rintro e w' ⟨rfl,hb⟩
   exact⟨rfl,⟨(h.tm.below hb).less (Nat.le_succ _),h.cell (S':=fun _=>False) (.of_below hb) (fun a=>a)⟩, .of_below hb⟩
  ·refine(h.tm.bG a1 a2 a3 a4 a5 k).mono ?_
   rintro e w' ⟨rfl,hb,hf⟩
   have hk:Nd.kind x=k:=by
    unfold Nd.kind
    cases hl:x.leaf with
    |true=>rw[if_pos rfl,h1 hl]
    |false=>rw[if_neg (by decide),h2 hl]
   rw[if_pos hk]
   exact⟨rfl,⟨hb,h.cell hf (fun a=>hdt a.symm)⟩,hf⟩
 Ia:=fun {r σ w id x} h hv h2=>by
  rcases jm hv with⟨a1,a2⟩ | ⟨a1,a2,a3,a4,a5⟩
  ·refine(h.tm.mem.Ia a1 a2 h2).mono ?_
   rintro e w' ⟨rfl,hb⟩
   exact⟨rfl,⟨(h.tm.below hb).less (Nat.le_succ _),h.cell (S':=fun _=>False) (.of_below hb) (fun a=>a)⟩, .of_below hb⟩
  ·refine(h.tm.bG a1 a2 a3 a4 a5 1).mono ?_
   rintro e w' ⟨rfl,hb,hf⟩
   have hk:Nd.kind x≠1:=by
    unfold Nd.kind
    rw[h2]
    decide
   rw[if_neg hk]
   exact⟨rfl,⟨hb,h.cell hf (fun a=>hdt a.symm)⟩,hf⟩
 map:=fun {r σ w w' g es c} h hg hm hf=>h.turn hf hg (fun b _ ⟨cs,hc⟩ e=>by subst e;rw[hm]at hc;cases hc)
 run:=fun {r σ w w' g cs} h hg hm hf=>h.turn hf (Nat.le_trans hK hg) (fun b ⟨v,q1,q2⟩ _ e=>by
  obtain⟨v',p1,p2⟩:=h.free
  rw[q1]at p1
  cases p1
  have:=p2 b q2
  omega)
structure kW(t mm mb lo:Nat)(v:Value)(met st:List Int)(w:World):Prop where
 self:Blk w mm 247 #[.pointer (some ⟨t,0,none⟩), .map (some mb),v]
 row:LO aV 3 w lo v st
 map:∃D,w.ownsMap Tryz.prog 3 Uj mb met.length D/\zF D met
def MS(mm mb:Nat)(v:Value)(k:Nat):Prop:=k=mm\/k=mb\/v.ownBlock=some k
variable {t mm mb lo:Nat}{v:Value}{met st:List Int}
theorem kW.fr{S:Nat->Prop}(h:kW t mm mb lo v met st w)(hf:Fr S w w')(hS:∀k,S k->¬MS mm mb v k):kW t mm mb lo v met st w':=by
 obtain⟨h1,h2,D,⟨es,ck,g1,g2⟩,g3⟩:=h
 refine⟨hf.blk h1 (fun a=>hS _ a (.inl rfl)),h2.frB hf (fun g hg a=>hS g a (.inr (.inr hg))),D,⟨es,ck,(hf.block _ (Array.getElem?_eq_some_iff.1 g1).1 (fun a=>hS _ a (.inr (.inl rfl)))).trans g1,g2⟩,g3⟩
theorem kW.below(h:kW t mm mb lo v met st w)(hb:Below w.heap.size w w'):kW t mm mb lo v met st w':=h.fr (S:=fun _=>False) (.of_below hb) (fun _ a=>a.elim)
theorem kW.mlt(h:kW t mm mb lo v met st w):mm<w.heap.size/\mb<w.heap.size:=by
 obtain⟨h1,h2,D,⟨es,ck,g1,g2⟩,g3⟩:=h
 exact⟨h1.lt,(Array.getElem?_eq_some_iff.1 g1).1⟩
theorem kW.ms(h:kW t mm mb lo v met st w){k:Nat}(hk:MS mm mb v k):k<w.heap.size:=by
 rcases hk with rfl | rfl | hk
 ·exact h.mlt.1
 ·exact h.mlt.2
 ·exact(h.row.lt _ hk).2
end
theorem qB:∀ (a met st:List Int) (x:Int),Mk.push met st (a++ [x])=if x≠0/\x ∉ (Mk.push met st a).1 then((Mk.push met st a).1++ [x],(Mk.push met st a).2++ [x])else Mk.push met st a
 | [],met,st,x=>by
  show Mk.push met st [x]=_
  unfold Mk.push
  rfl
 |i::a,met,st,x=>by
  show Mk.push met st (i::(a++ [x]))=_
  by_cases h:i≠0/\i ∉ met
  ·have e:∀r,Mk.push met st (i::r)=Mk.push (met++ [i]) (st++ [i]) r:=fun r=>by rw[Mk.push,if_pos h]
   rw[e,e,qB a]
  ·have e:∀r,Mk.push met st (i::r)=Mk.push met st r:=fun r=>by rw[Mk.push,if_neg h]
   rw[e,e,qB a]
theorem Lh(l met st:List Int):(Mk.push met st l).1.length<=met.length+l.length/\(Mk.push met st l).2.length<=st.length+l.length:=by
 induction l generalizing met st with
 |nil=>simp[Mk.push]
 |cons i l ih=>
  unfold Mk.push
  split
  ·have:=ih (met++ [i]) (st++ [i])
   simp at this ⊢
   omega
  ·have:=ih met st
   simp at this ⊢
   omega
section
variable {S:Nat->Prop}{B t K mm mb lo:Nat}{disk:Tp.aA}{TM:Nat->Tp.Pst->World->Prop}{w:World}{r:Nat}{σ:Tp.Pst}{v:Value}{met st:List Int}
def Lj(t mm mb lo:Nat)(TM:Nat->Tp.Pst->World->Prop)(r:Nat)(σ:Tp.Pst)(v:Value)(met st:List Int)(w:World)(e:Ending)(w':World):Prop:=
 e= .returned (.tuple #[])/\∃v',kW t mm mb lo v' met st w'/\TM r σ w'/\Fr (MS mm mb v) w w'/\(v'.ownBlock=v.ownBlock\/∃g,v'.ownBlock=some g/\w.heap.size<=g)
theorem push_any(M:Mrd S B t K disk TM)(A:Option Addr)(c:Nat)(l:List Int)(h:kW t mm mb lo v met st w)(hT:TM r σ w)(hB:B<=mm/\B<=mb/\B<=lo/\lo<=w.heap.size)
  (hid:∀x∈l,fJ x) (hls:LS aV w w.heap.size A l) (hne:∀ad,l≠ []->A=some ad->¬MS mm mb v ad.block) (hl:l.length<=100000) (hml:met.length<=100000/\st.length<=100000):
  Calls Tryz.prog 150 #[.pointer (some ⟨mm,0,none⟩), .slice A l.length c] w (Lj t mm mb lo TM r σ v (Mk.push met st l).1 (Mk.push met st l).2 w):=by
 have HM:=Lib.hid M
 have HID:=Lib.hid hid
 have HC:Hid (∀wr,Fr (MS mm mb v) w wr->∀k (hk:k<l.length),∃b o,A=some ⟨b,o,none⟩/\wr.cell? ⟨b,o+k,none⟩=some (.int .i64 l[k])):=Lib.hid fun wr hf k hk=>by
  obtain⟨b,o,e,hb,hc⟩:=hls.at_ hk
  have h0:=hc 0 (by decide)
  refine⟨b,o,e,(hf.cell (p:=⟨b,o+k,none⟩) hb (show ¬MS mm mb v b from hne _ (List.ne_nil_of_length_pos (by omega)) e)).trans ?_⟩
  have e1:o+k*aV.size+0=o+k:=by show o+k*1+0=o+k;omega
  rw[e1]at h0
  exact h0
 have HST:Hid (Lj t mm mb lo TM r σ v met st w (.returned (.tuple #[])) w):=Lib.hid ⟨rfl,v,h,hT,Fr.refl _, .inl rfl⟩
 clear M hid hls hne h hT
 go_enter Tryz.func150,Tryz.ntmps150
 go_wp2
 go_loopg [8] (l.length) (fun gg s8 wr=>∃k:Nat,s8= .int .i64 (k:Nat)/\k<=l.length/\l.length-k<=gg/\Hid (Lj t mm mb lo TM r σ v (Mk.push met st (l.take k)).1 (Mk.push met st (l.take k)).2 w (.returned (.tuple #[])) wr))
 case atStart=>exact⟨0,rfl,Nat.zero_le _,by omega,HST⟩
 case round=>
  obtain⟨k,rfl,hkl,hkg,HP⟩:=hrel
  by_cases hk:k<l.length
  ·have hki:(k:Int)<(l.length:Nat):=by omega
   obtain⟨_,v1,hat,htm,hfr,hob⟩:=HP.out
   obtain⟨b,o,rfl,hc⟩:=HC.out wr hfr k hk
   have hx:=HID.out l[k] (List.getElem_mem hk)
   have hsn:=qB (l.take k) met st l[k]
   rw[<-List.take_succ_eq_append_getElem hk]at hsn
   have hpl:=Lh (l.take k) met st
   rw[List.length_take,Nat.min_eq_left hkl]at hpl
   obtain⟨p,hp⟩:∃p,p=Mk.push met st (l.take k):=⟨_,rfl⟩
   rw[<-hp]at hat hsn hpl
   obtain⟨m1,s1⟩:=p
   simp only at hat hsn hpl
   have HSN:=Lib.hid hsn
   clear hsn hp HP
   generalize l[k]=x at*
   have hw:=hx.wf
   have hwk:IntKind.i64.wrap ((k:Int)+1)=(k:Int)+1:=IntWalk.i64_in _ (by omega)
   by_cases h0:x=0
   ·subst h0
    go_wp2
    go_roundg (l.length-(k+1))
    case measure=>omega
    case rel=>exact⟨k+1,by go_num,by omega,Nat.le_refl _,Lib.hid (by rw[HSN.out,if_neg (by simp)];exact⟨rfl,v1,hat,htm,hfr,hob⟩)⟩
   ·have hxb:(x==0)=false:=by simpa using h0
    have hxn:(x != 0)=true:=by simpa using h0
    obtain⟨D,hmap,hset⟩:=hat.map
    have hlook:=XP hmap hset hw
    have c0:=hat.self.cell 0
    have c1:=hat.self.cell 1
    have c2:=hat.self.cell 2
    by_cases hm:x∈m1
    ·have hq:decide (x∈m1)=true:=decide_eq_true hm
     rw[hq]at hlook
     have HAT:=Lib.hid hat
     clear hq hat hmap hset
     go_wp2
     go_roundg (l.length-(k+1))
     case measure=>omega
     case rel=>exact⟨k+1,by go_num,by omega,Nat.le_refl _,Lib.hid (by rw[HSN.out,if_neg (fun a=>a.2 hm)];exact⟨rfl,v1,HAT.out,htm,hfr,hob⟩)⟩
    ·have hq:decide (x∈m1)=false:=decide_eq_false hm
     rw[hq]at hlook
     obtain⟨w4,ug,qG,hturn⟩:=hmap.store jg Tryz.underlying245 (show m1.length<maxLen by unfold maxLen;omega) (qN hw) (Qu true)
     obtain⟨es,ck,nM⟩:∃es ck,wr.heap[mb]? =some (.map es ck):=by obtain⟨es,ck,g1,_⟩:=hmap;exact⟨es,ck,g1⟩
     have hf4:Fr (fun k=>k=mb) wr w4:=⟨hturn.grown.os,hturn.grown.tape,hturn.grown.output,hturn.grown.size,fun k hk hn=>hturn.grown.block k hk (fun e=>hn (by injection e))⟩
     have ht4:=HM.out.map htm hB.2.1 nM hf4
     have hne:mm≠mb:=fun e=>by have:=hat.self;unfold Blk at this;rw[e,nM]at this;cases this
     have vP:=hf4.blk hat.self hne
     have hrow4:LO aV 3 w4 lo v1 s1:=hat.row.frB hf4 (fun g hg e=>by
      rcases hat.row.2 with⟨e1,_⟩ | ⟨g',cap,cur,e1,_,e3,_⟩
      ·rw[e1]at hg;cases hg
      ·rw[e1]at hg
       have e4:g'=g:=by injection hg
       rw[e4,e,nM]at e3
       cases e3)
     have Qv:=hset.put hmap.isMap x
     obtain⟨A1,k1,rfl⟩:=hrow4.form
     have d0:=vP.cell 0
     have d1:=vP.cell 1
     have d2:=vP.cell 2
     have f2:=vP.frozen 2
     have hng:=aB hrow4 vP (by decide)
     have HS:=Lib.hid (And.intro vP (And.intro qG (And.intro Qv (And.intro ht4 hf4))))
     have XR:w4.ownsRow lo 3 1 (.slice A1 s1.length k1) s1.length (aV.cells s1):=hrow4
     have hlo:lo<=w4.heap.size:=by have:=hfr.size;have:=hf4.size;omega
     clear hset hat hmap hq vP qG Qv nM hturn hf4 ht4
     go_wp2_with (at_builtin;refine aU rfl _ _ 49 rfl wL Tryz.underlying49 rfl (by decide) rfl XR rfl (by simp) rfl (by simp[Value.oneCell']) (by unfold maxLen;omega) (by omega) hlo ?_;intro v' w5 hown' hgrow hbel aeR _;obtain⟨A2,k2,rfl⟩:=gZ hown';have Dw:=HS.out.1.grown hgrow (fun e=>hng e.symm);have q2:=Dw.cell 2;have g2:=Dw.frozen 2)
     have acB:=Dw.aW 2 (.slice A2 (s1.length+1) k2)
     have aeS:LO aV 3 w5 lo (.slice A2 (s1.length+1) k2) (s1++ [x]):=LO.snoc rfl rfl rfl hown'
     have hfg:=Fr.bW hgrow
     obtain⟨_,qG,Qv,ht4,hf4⟩:=HS.out
     have hf6:Fr (MS mm mb v) w (w5.setCell ⟨mm,2,none⟩ (.slice A2 (s1.length+1) k2)):=by
      refine Fr.old (S':=fun k=>MS mm mb v k\/MS mm mb (.slice A1 s1.length k1) k) ((hfr.more fun _=> .inl).trans ((hf4.more fun k a=> .inr (.inr (.inl a))).trans ((hfg.more fun k a=> .inr (.inr (.inr a))).trans (Fr.aW (.inr (.inl rfl)) _)))) (fun k hk=> ?_)
      rcases hk with hk | hk | hk | hk
      ·exact .inl hk
      ·exact .inl (.inl hk)
      ·exact .inl (.inr (.inl hk))
      ·rcases hob with e | ⟨g,e,hg⟩
       ·rw[e]at hk;exact .inl (.inr (.inr hk))
       ·rw[e]at hk
        have:g=k:=by injection hk
        exact .inr (by omega)
     have ht5:=HM.out.row ht4 XR hB.2.2.1 (by decide) (by decide) (by decide) (by decide) hgrow
     have IB:(Value.slice A1 s1.length k1).ownBlock≠some mb:=fun e=>by
      obtain⟨cs,hcs⟩:=fG XR e
      obtain⟨es,ck,g1,_⟩:=qG
      rw[g1]at hcs
      cases hcs
     have hne2:mb≠mm:=fun e=>by
      obtain⟨es,ck,g1,_⟩:=qG
      have g2:=HS.out.1
      unfold Blk at g2
      rw[<-e,g1]at g2
      cases g2
     go_roundg (l.length-(k+1))
     case measure=>omega
     case rel=>
      refine⟨k+1,by go_num,by omega,Nat.le_refl _,Lib.hid ?_⟩
      rw[HSN.out,if_pos ⟨h0,hm⟩]
      refine⟨rfl,_,⟨acB,aeS.aW Dw (by decide),_, ?_,Qv⟩, ?_,hf6, ?_⟩
      ·have:=(qG.kept hgrow (fun e=>IB e.symm)).setCell (a:=⟨mm,2,none⟩) hne2 (.slice A2 (s1.length+1) k2)
       simpa using this
      ·exact HM.out.own ht5 (Fr.aW (S:=fun k=>k=mm) rfl _) Dw hB.1 (by decide) (by decide) (by decide) (by decide)
      ·rcases aeR with e | ⟨g,e,hg⟩
       ·rw[e];exact hob
       ·refine .inr ⟨g,e, ?_⟩
        have:=hfr.size
        have:=hf4.size
        omega
  ·obtain rfl:k=l.length:=by omega
   have hki:¬ (l.length:Int)<(l.length:Nat):=by omega
   go_wp2
   go_end0
   have:=HP.out
   rw[List.take_of_length_le (Nat.le_refl _)]at this
   exact this
end
section
variable {S:Nat->Prop}{B t K mm mb lo:Nat}{disk:Tp.aA}{TM:Nat->Tp.Pst->World->Prop}{bad:Int->Prop}{w w':World}{r:Nat}{σ:Tp.Pst}{v:Value}{met st:List Int}
theorem kW.sfr(M:Mrd S B t K disk TM)(h:kW t mm mb lo v met st w)(hB:B<=mm/\B<=mb/\B<=lo)(hf:Fr S w w'):kW t mm mb lo v met st w':=h.fr hf (fun k hk a=>by
 have:=M.low k hk
 rcases a with rfl | rfl | a
 ·omega
 ·omega
 ·have:=(h.row.lt _ a).1;omega)
def aaT(S:Nat->Prop)(t mm mb lo:Nat)(TM:Nat->Tp.Pst->World->Prop)(r:Nat)(σ:Tp.Pst)(v:Value)(met st:List Int)(vw:Option Nd.Node)(w:World)(e:Ending)(w':World):Prop:=
 (∃n,vw=some n/\e= .returned (.int .i64 0)/\∃v',kW t mm mb lo v' (Mk.push met st n.kids).1 (Mk.push met st n.kids).2 w'/\TM r σ w'/\Fr (fun k=>S k\/MS mm mb v k) w w')\/
 (vw=none/\e= .returned (.int .i64 3)/\TM r σ w'/\Fr (fun k=>S k\/MS mm mb v k) w w')
theorem Dx(M:Mrd S B t K disk TM)(h:kW t mm mb lo v met st w)(hT:TM r σ w)(hB:B<=mm/\B<=mb/\B<=lo/\lo<=w.heap.size)(n:Nd.Node)(hid:∀x∈n.kids,fJ x)(hkl:n.kids.length<=100000)(hml:met.length<=100000/\st.length<=100000)
  {w4 w5:World} (hb4:Below w.heap.size w w4) {A1 A2 A3:Option Addr} {k1 k2 k3:Nat} (hnf:NF w.heap.size w4 (aP n.leaf A1 n.ents.length k1 A2 n.kids.length k2 A3 n.keys.length k3) n) (hf5:Below w4.heap.size w4 w5):
  Calls Tryz.prog 150 #[.pointer (some ⟨mm,0,none⟩), .slice A2 n.kids.length k2] w5 (Lj t mm mb lo TM r σ v (Mk.push met st n.kids).1 (Mk.push met st n.kids).2 w5):=by
 have h4:=h.below hb4
 have h5:=h4.below hf5
 have ht5:=M.below (M.below hT hb4) hf5
 have hz4:=hb4.size
 have hz5:=hf5.size
 have ag3:=hnf.below hf5
 obtain⟨_,_,_,_,_,_,e,_,q2,_⟩:=ag3
 unfold aP at e
 simp only[Value.agg.injEq,Array.mk.injEq,List.cons.injEq,Value.slice.injEq,and_true,true_and]at e
 obtain⟨⟨rfl,rfl⟩,⟨rfl,rfl⟩,rfl,rfl⟩:=e
 have hk:=q2.ls
 refine push_any M _ _ _ h5 ht5 ⟨hB.1,hB.2.1,hB.2.2.1,by omega⟩ hid hk (fun ad _ e a=> ?_) hkl hml
 have hge:w.heap.size<=ad.block:=by
  rcases q2.2 with⟨e1,_⟩ | ⟨g,cap,cur,e1,e2,e3,_⟩
  ·injection e1 with e1;rw[e1]at e;cases e
  ·injection e1 with e1;rw[e1]at e;injection e with e;subst e;exact e2
 have:=h.ms a
 omega
theorem Uk(M:Mrd S B t K disk TM)(hbad:OJ S t TM bad)(h:kW t mm mb lo v met st w)(hT:TM (r+2) σ w)(hB:B<=mm/\B<=mb/\B<=lo/\lo<=w.heap.size)(id:Int)
  (hok:(∃n,σ.view disk id=some n)\/(σ.view disk id=none/\bad id)) (Ij:∀n,σ.view disk id=some n->(∀x∈n.kids,fJ x)/\n.kids.length<=100000) (hml:met.length<=100000/\st.length<=100000):
  Calls Tryz.prog 151 #[.pointer (some ⟨mm,0,none⟩), .int .i64 id] w (aaT S t mm mb lo TM r σ v met st (σ.view disk id) w):=by
 have hget:=XQ M hbad r σ id hok
 have hfit:Hid (∀n,σ.view disk id=some n->Nd.fits n=true):=Lib.hid fun n hv=>(M.ht hT hv).1
 have HM:=Lib.hid M
 have Ik:=Lib.hid Ij
 have HMK:Hid (∀w',Fr S w w'->kW t mm mb lo v met st w'/\w'.cell? ⟨mm,0,none⟩=some (.pointer (some ⟨t,0,none⟩))):=Lib.hid fun w' hf=>by
  have h2:=h.sfr HM.out ⟨hB.1,hB.2.1,hB.2.2.1⟩ hf
  exact⟨h2,h2.self.cell 0⟩
 have c0:=(HMK.out _ (Fr.refl _)).2
 have HT:=Lib.hid hT
 clear M hbad h hT hok Ij
 go_enter Tryz.func151,Tryz.ntmps151
 go_wp2_with fail
 rcases hget with⟨n,hv,hlf,hG⟩ | ⟨hG,hget⟩
 ·have HG0:=Lib.hid (hG _ HT.out)
  have hD:=Lib.hid (fun W=>jC n (hfit.out n hv) W)
  have hk:Nd.kind n=1:=by unfold Nd.kind;rw[if_pos hlf]
  rw[hk]at hD
  have HK:=Lib.hid (Ik.out n hv)
  generalize Nd.str (Nd.enc n)=s at*
  clear hG hlf hk hfit Ik
  refine HG0.out.mono ?_
  rintro e w1 ⟨rfl,ht1,hf1⟩
  have HF1:=Lib.hid hf1
  have HT1:=Lib.hid (HM.out.less ht1 (Nat.le_succ _))
  clear ht1 hf1 HG0
  go_wp2_with fail
  refine(hD.out _).mono ?_
  rintro e w4 ⟨v4,rfl,hnf,hb4⟩
  have hz1:=HF1.out.size
  have hz4:=hb4.size
  obtain⟨A1,k1,A2,k2,A3,k3,rfl,rr⟩:=hnf
  have HNF:Hid (NF w1.heap.size w4 (aP n.leaf A1 n.ents.length k1 A2 n.kids.length k2 A3 n.keys.length k3) n):=Lib.hid ⟨A1,k1,A2,k2,A3,k3,rfl,rr⟩
  have HB4:=Lib.hid hb4
  have hbp:=Blk.new w4 146 #[.bool n.leaf, .slice A1 n.ents.length k1, .slice A2 n.kids.length k2, .slice A3 n.keys.length k3]
  have hbel:=(Below.refl w4.heap.size w4).alloc (Nat.le_refl _) (.cells #[.bool n.leaf, .slice A1 n.ents.length k1, .slice A2 n.kids.length k2, .slice A3 n.keys.length k3] 146)
  have b2:=hbp.cell 2
  have XT:=Lib.hid hbel
  clear hb4 rr hbp hbel
  unfold aP
  go_wp2_with fail
  refine(Dx HM.out (HMK.out _ HF1.out).1 HT1.out ⟨hB.1,hB.2.1,hB.2.2.1,by omega⟩ n HK.out.1 HK.out.2 hml HB4.out HNF.out XT.out).mono ?_
  rintro e w6 ⟨rfl,v6,hat,htm,hfr,hob⟩
  have HAT:=Lib.hid hat
  have HTM:=Lib.hid htm
  have HF6:Hid (Fr (fun k=>S k\/MS mm mb v k) w w6):=Lib.hid ((HF1.out.more fun _=> .inl).trans (((Fr.of_below (HB4.out)).trans (.of_below XT.out)).trans (hfr.more fun _=> .inr)))
  clear hat htm hfr hob
  go_wp2
  go_ret
  exact .inl ⟨n,hv,rfl,v6,HAT.out,HTM.out,HF6.out⟩
 ·have HG0:=Lib.hid (hG _ HT.out)
  clear hG
  refine HG0.out.mono ?_
  rintro e w0 ⟨rfl,ht0,hf0⟩
  have HF0:=Lib.hid hf0
  have HT0:=Lib.hid ht0
  have c0:=(HMK.out _ hf0).2
  clear ht0 hf0 HG0
  go_wp2_with fail
  rcases hget with⟨n,hv,hlf,hG⟩ | ⟨hv,hG⟩
  ·have HG1:=Lib.hid (hG _ HT0.out)
   have hD:=Lib.hid (fun W=>jC n (hfit.out n hv) W)
   have hk:Nd.kind n=2:=by unfold Nd.kind;rw[if_neg (by rw[hlf];simp)]
   rw[hk]at hD
   have HK:=Lib.hid (Ik.out n hv)
   generalize Nd.str (Nd.enc n)=s at*
   clear hG hlf hk hfit Ik
   refine HG1.out.mono ?_
   rintro e w1 ⟨rfl,ht1,hf1⟩
   have HF1:=Lib.hid (HF0.out.trans hf1)
   have HT1:=Lib.hid ht1
   clear ht1 hf1 HG1
   go_wp2_with fail
   refine(hD.out _).mono ?_
   rintro e w4 ⟨v4,rfl,hnf,hb4⟩
   have hz1:=HF1.out.size
   have hz4:=hb4.size
   obtain⟨A1,k1,A2,k2,A3,k3,rfl,rr⟩:=hnf
   have HNF:Hid (NF w1.heap.size w4 (aP n.leaf A1 n.ents.length k1 A2 n.kids.length k2 A3 n.keys.length k3) n):=Lib.hid ⟨A1,k1,A2,k2,A3,k3,rfl,rr⟩
   have HB4:=Lib.hid hb4
   have hbp:=Blk.new w4 146 #[.bool n.leaf, .slice A1 n.ents.length k1, .slice A2 n.kids.length k2, .slice A3 n.keys.length k3]
   have hbel:=(Below.refl w4.heap.size w4).alloc (Nat.le_refl _) (.cells #[.bool n.leaf, .slice A1 n.ents.length k1, .slice A2 n.kids.length k2, .slice A3 n.keys.length k3] 146)
   have b2:=hbp.cell 2
   have XT:=Lib.hid hbel
   clear hb4 rr hbp hbel
   unfold aP
   go_wp2_with fail
   refine(Dx HM.out (HMK.out _ HF1.out).1 HT1.out ⟨hB.1,hB.2.1,hB.2.2.1,by omega⟩ n HK.out.1 HK.out.2 hml HB4.out HNF.out XT.out).mono ?_
   rintro e w6 ⟨rfl,v6,hat,htm,hfr,hob⟩
   have HAT:=Lib.hid hat
   have HTM:=Lib.hid htm
   have HF6:Hid (Fr (fun k=>S k\/MS mm mb v k) w w6):=Lib.hid ((HF1.out.more fun _=> .inl).trans (((Fr.of_below (HB4.out)).trans (.of_below XT.out)).trans (hfr.more fun _=> .inr)))
   clear hat htm hfr hob
   go_wp2
   go_ret
   exact .inl ⟨n,hv,rfl,v6,HAT.out,HTM.out,HF6.out⟩
  ·have HG1:=Lib.hid (hG _ HT0.out)
   clear hG
   refine HG1.out.mono ?_
   rintro e w1 ⟨rfl,ht1,hf1⟩
   have HF1:=Lib.hid (HF0.out.trans hf1)
   have HT1:=Lib.hid ht1
   clear ht1 hf1 HG1
   go_wp2
   go_ret
   exact .inr ⟨hv,rfl,HT1.out,HF1.out.more fun _=> .inl⟩
end
def dJ(i:Int):Run:=(i,i)
section
variable {S:Nat->Prop}{B t K:Nat}{disk:Tp.aA}{TM:Nat->Tp.Pst->World->Prop}{bad:Int->Prop}{w w':World}{r:Nat}{σ:Tp.Pst}
structure Closed(v:Int->Option Nd.Node)(bad:Int->Prop)(cs:List Int):Prop where
 ok:∀x∈cs,fJ x
 page:∀x∈cs,(∃n,v x=some n/\(∀k∈n.kids,k=0\/k∈cs)/\n.kids.length<=100000)\/(v x=none/\bad x)
def XU(S:Nat->Prop)(TM:Nat->Tp.Pst->World->Prop)(r:Nat)(σ:Tp.Pst)(vw:Int->Option Nd.Node)(bad:Int->Prop)(cs roots:List Int)(w:World)(e:Ending)(w':World):Prop:=
 Fr S w w'/\((∃v met out,e= .returned (.tuple #[v, .int .i64 0])/\Own w' w.heap.size v (Rp.norm (out.map dJ))/\Mk.Inv vw (· ∈cs) roots met [] out/\(∀x∈out,∃n,vw x=some n)/\TM (r+2*(cs.length-out.length)) σ w')\/
  (e= .returned (.tuple #[.slice none 0 0, .int .i64 3])/\(∃x∈cs,vw x=none/\bad x)/\TM r σ w'))
theorem Own.frB{base:Nat}{v:Value}{l:List Run}{S:Nat->Prop}{w w':World}(h:Own w base v l)(hf:Fr S w w')(hS:∀g,v.ownBlock=some g->¬S g):Own w' base v l:=by
 obtain⟨h1,h2⟩:=h
 refine⟨h1, ?_⟩
 rcases h2 with h2 | ⟨g,cap,cur,e1,e2,e3,e4⟩
 ·exact .inl h2
 ·exact .inr ⟨g,cap,cur,e1,e2,(hf.block g (Array.getElem?_eq_some_iff.1 e3).1 (hS g (by rw[e1];rfl))).trans e3,e4⟩
theorem OL{t mm mb lo base:Nat}{v v2:Value}{met st:List Int}{l:List Run}{w:World}(h:Own w base v l)(hat:kW t mm mb lo v2 met st w){g:Nat}(hg:v.ownBlock=some g):¬MS mm mb v2 g:=by
 obtain⟨cs,hb⟩:=fG h hg
 rintro(rfl | rfl | a)
 ·have:=hat.self
  unfold Blk at this
  rw[hb]at this
  injection this with this
  injection this with _ this
  revert this
  decide
 ·obtain⟨D,⟨es,ck,g1,_⟩,_⟩:=hat.map
  rw[hb]at g1
  cases g1
 ·obtain⟨cs',hb'⟩:=fG hat.row a
  rw[hb]at hb'
  injection hb' with hb'
  injection hb' with _ hb'
  revert hb'
  decide
theorem Mrd.runs{S:Nat->Prop}{B t K:Nat}{disk:Tp.aA}{TM:Nat->Tp.Pst->World->Prop}(M:Mrd S B t K disk TM){r base:Nat}{σ:Tp.Pst}{w w':World}{v:Value}{l:List Run}(h:TM r σ w)(ho:Own w base v l)(hb:K<=base)(hg:w.grownBy w' v.ownBlock):TM r σ w':=by
 cases hv:v.ownBlock with
 |none=>rw[hv]at hg;exact M.below h (nV hg (Nat.le_refl _))
 |some g=>
  obtain⟨cs,hc⟩:=fG ho hv
  refine M.run (g:=g) (cs:=cs) h (Nat.le_trans hb (World.ownsRow.lt ho g hv).1) hc ((Fr.bW hg).more fun k hk=> ?_)
  rw[hv]at hk
  injection hk with hk
  exact hk.symm
theorem XV{v:Int->Option Nd.Node}{cs roots met st out:List Int}(h:Mk.Inv v (· ∈cs) roots met st out):out.length+st.length<=cs.length:=by
 have:=List.Nodup.length_le_of_subset h.nd (fun x hx=>h.inn x ((h.mem x).2 (List.mem_append.1 hx)))
 simpa using this
theorem Dy(M:Mrd S B t K disk TM)(hbad:OJ S t TM bad)(cs roots:List Int)(hC:Closed (σ.view disk) bad cs)(hR:∀x∈roots,x=0\/x∈cs)(hcl:cs.length<=50000)(hrl:roots.length<=50000)
  (A:Option Addr) (c:Nat) (hls:LS aV w w.heap.size A roots) (hT:TM (r+2*cs.length) σ w) (hK:K<=w.heap.size):
  Calls Tryz.prog 74 #[.pointer (some ⟨t,0,none⟩), .slice A roots.length c] w (XU S TM r σ (σ.view disk) bad cs roots w):=by
 have HM:=Lib.hid M
 have HC:=Lib.hid hC
 have hsz:=M.size hT
 have F9:=World.ownsMap_made w Tryz.prog 3 Uj
 obtain⟨new,hpe,hinv⟩:=Mk.inv_start (v:=σ.view disk) (C:=(· ∈cs)) roots hR
 have hps:Hid (∀w1,Below w.heap.size w w1->kW t (w.heap.size+1) w.heap.size (w.heap.size+2) (.slice none 0 0) [] [] w1->w.heap.size+2<=w1.heap.size->Calls Tryz.prog 150 #[.pointer (some ⟨w.heap.size+1,0,none⟩), .slice A roots.length c] w1 (Lj t (w.heap.size+1) w.heap.size (w.heap.size+2) TM (r+2*cs.length) σ (.slice none 0 0) new new w1)):=Lib.hid fun w1 hb hat hz=>by
  have:=push_any M A c roots hat (M.below hT hb) ⟨by omega,by omega,by omega,hz⟩ (fun x hx=>(hR x hx).elim (fun e=>by subst e;unfold fJ;omega) (hC.ok x)) ((hls.below hb).more (by omega)) (fun ad hn e a=>by
   obtain⟨ad',e',hb',_⟩:=hls.2 (List.length_pos_iff.2 hn)
   rw[e]at e'
   injection e' with e'
   subst e'
   rcases a with a | a | a
   ·omega
   ·omega
   ·cases a) (by omega) (by simp)
  rw[hpe]at this
  exact this
 have hmr:Hid (∀ (r':Nat) (w1:World) (v1:Value) (Z9 st1:List Int) (id:Int),kW t (w.heap.size+1) w.heap.size (w.heap.size+2) v1 Z9 st1 w1->TM (r'+2) σ w1->w.heap.size+2<=w1.heap.size->id∈cs->Z9.length<=100000/\st1.length<=100000->
   Calls Tryz.prog 151 #[.pointer (some ⟨w.heap.size+1,0,none⟩), .int .i64 id] w1 (aaT S t (w.heap.size+1) w.heap.size (w.heap.size+2) TM r' σ v1 Z9 st1 (σ.view disk id) w1)):=Lib.hid fun r' w1 v1 Z9 st1 id hat ht hz hi hml=>
  Uk M hbad hat ht ⟨by omega,by omega,by omega,hz⟩ id ((hC.page id hi).imp (fun⟨n,a,_⟩=>⟨n,a⟩) (fun a=>a)) (fun n hv=>by
   rcases hC.page id hi with⟨n',a,b,d⟩ | ⟨a,_⟩
   ·rw[hv]at a
    cases a
    exact⟨fun x hx=>(b x hx).elim (fun e=>by subst e;unfold fJ;omega) (hC.ok x),d⟩
   ·rw[hv]at a;cases a) hml
 have hTA:Hid (∀w1,Below w.heap.size w w1->TM (r+2*cs.length) σ w1):=Lib.hid fun w1 hb=>M.below hT hb
 clear M hbad hC hls hT
 go_enter Tryz.func74,Tryz.ntmps74
 have hmm:= @run_makeMap Tryz.prog
 go_wp2_with fail
 have hbA:Below w.heap.size w ((w.alloc (.map #[] 0)).alloc (.cells #[.pointer (some ⟨t,0,none⟩), .map (some w.heap.size), .slice none 0 0] 247)):=((Below.refl _ w).alloc (Nat.le_refl _) _).alloc (by simp) _
 have aeT:kW t (w.heap.size+1) w.heap.size (w.heap.size+2) (.slice none 0 0) [] [] ((w.alloc (.map #[] 0)).alloc (.cells #[.pointer (some ⟨t,0,none⟩), .map (some w.heap.size), .slice none 0 0] 247)):=by
  refine⟨?_,LO.nil_ _ _,_,F9.alloc _,zF.nil⟩
  have:=Blk.new (w.alloc (.map #[] 0)) 247 #[.pointer (some ⟨t,0,none⟩), .map (some w.heap.size), .slice none 0 0]
  simpa using this
 refine(hps.out _ hbA aeT (by simp)).mono ?_
 rintro e w1 ⟨rfl,v1,aeU,ht1,hf1,ag4⟩
 have hF1:Fr S w w1:=Fr.old (S':=fun k=>S k\/MS (w.heap.size+1) w.heap.size (.slice none 0 0) k) ((Fr.of_below hbA).trans (hf1.more fun _=> .inr)) (fun k hk=>by
  rcases hk with hk | hk | hk | hk
  ·exact .inl hk
  ·exact .inr (by omega)
  ·exact .inr (by omega)
  ·cases hk)
 have hz1:w.heap.size+2<=w1.heap.size:=by have:=hf1.size;simp at this;exact this
 have HI:Hid (∃L v met st,(Value.slice none 0 0)=L/\kW t (w.heap.size+1) w.heap.size (w.heap.size+2) v met st w1/\TM (r+2*(cs.length-([]:List Int).length)) σ w1/\Own w1 w.heap.size L (([]:List Int).map dJ)/\Mk.Inv (σ.view disk) (· ∈cs) roots met st []/\(∀x∈([]:List Int),∃n,σ.view disk x=some n)/\Fr S w w1/\w.heap.size+2<=w1.heap.size/\met.length<=([]:List Int).length+st.length):=Lib.hid ⟨_,v1,new,new,rfl,aeU,by simpa using ht1,Own.nil_ _ _,hinv,fun x hx=>absurd hx List.not_mem_nil,hF1,hz1,by simp⟩
 clear aeU ht1 hf1 ag4 hF1 hz1 hinv hpe hps aeT hbA F9 hTA
 go_wp2
 go_loopg [7] (cs.length) (fun gg s7 wr=>∃out:List Int,cs.length-out.length<=gg/\Hid (∃L v met st,s7=L/\kW t (w.heap.size+1) w.heap.size (w.heap.size+2) v met st wr/\TM (r+2*(cs.length-out.length)) σ wr/\Own wr w.heap.size L (out.map dJ)/\Mk.Inv (σ.view disk) (· ∈cs) roots met st out/\(∀x∈out,∃n,σ.view disk x=some n)/\Fr S w wr/\w.heap.size+2<=wr.heap.size/\met.length<=out.length+st.length))
 case atStart=>exact⟨[],by simp,HI⟩
 case round=>
  obtain⟨out,hg,HX⟩:=hrel
  obtain⟨L,v2,met,st,rfl,hat,htm,hown,hinv,hout,hfr,hz,hml⟩:=HX.out
  obtain⟨A3,c3,hL⟩:=hown.form
  rw[List.length_map]at hL
  subst hL
  have m0:=hat.self.cell 0
  have m2:=hat.self.cell 2
  have g2:=hat.self.frozen 2
  have hroom:=XV hinv
  rcases(show st= []\/∃st' id,st=st'++ [id]from by rcases List.eq_nil_or_concat st with h | ⟨a,b,h⟩;exact .inl h;exact .inr ⟨a,b,by simpa using h⟩)with rfl | ⟨st',id,rfl⟩
  ·obtain⟨A2,c2,rfl⟩:=hat.row.form
   have hN:=kH A3 c3 (out.map dJ) wr hown.rs (by simp;omega)
   rw[List.length_map]at hN
   have HN:=Lib.hid hN
   have HE:Hid (∀w3 v3,Own w3 wr.heap.size v3 (Rp.norm (out.map dJ))->Below wr.heap.size wr w3->XU S TM r σ (σ.view disk) bad cs roots w (.returned (.tuple #[v3, .int .i64 0])) w3):=Lib.hid fun w3 v3 ho hb=>⟨hfr.trans (.of_below hb), .inl ⟨v3,met,out,rfl,ho.lower hfr.size,hinv,hout,HM.out.below htm hb⟩⟩
   clear hinv hout hfr htm hown hat HX hN
   simp only[List.length_nil]at m2
   go_wp2_with fail
   refine HN.out.mono ?_
   rintro e w3 ⟨v3,rfl,ho3,hb3⟩
   have HE3:=Lib.hid (HE.out _ _ ho3 hb3)
   clear ho3 hb3 HE HN
   go_wp2
   go_ret2
   exact HE3.out
  ·obtain⟨g,c2,rfl,hlo,hgl,hgc,hcell,hrow⟩:=hat.row.last
   have x0:=hcell 0 (by decide)
   have x1:wr.cell? ⟨g,st'.length,none⟩=some (.int .i64 id):=by simpa[aV]using x0
   have hsl:st'.length+1<=100000:=by simp at hroom;omega
   have hn2:(st'.length:Int)<=c2:=by omega
   have hwn:IntKind.i64.wrap ((st'.length:Int)+1-1)=(st'.length:Int):=(IntWalk.i64_in _ (by omega)).trans (by omega)
   have HAT:=Lib.hid hat
   have xw:=Lib.hid hrow
   have HTM:=Lib.hid htm
   have HOWN:=Lib.hid hown
   have acC:=Lib.hid hinv
   have ag5:=Lib.hid hout
   have HFR:=Lib.hid hfr
   have hlt:=hat.self.lt
   clear hat hrow htm hown hinv hout hfr HX hcell x0
   go_wp2_with fail
   go_quiet (fail)
   go_wp2_with fail
   go_region
   go_wp2_with fail
   have hbd:Below wr.heap.size wr (wr.drewN (nq+1)):=below_drewN (Below.refl _ _) _
   have OM:=HAT.out.below hbd
   have hfs:Fr (fun k=>k=w.heap.size+1) (wr.drewN (nq+1)) ((wr.drewN (nq+1)).setCell ⟨w.heap.size+1,2,none⟩ (.slice (some ⟨g,0,none⟩) st'.length c2)):=Fr.aW (S:=fun k=>k=w.heap.size+1) rfl _
   have IB:w.heap.size≠w.heap.size+1:=by omega
   have zM:kW t (w.heap.size+1) w.heap.size (w.heap.size+2) (.slice (some ⟨g,0,none⟩) st'.length c2) met st' ((wr.drewN (nq+1)).setCell ⟨w.heap.size+1,2,none⟩ (.slice (some ⟨g,0,none⟩) st'.length c2)):=by
    obtain⟨D,d1,d2⟩:=OM.map
    refine⟨?_,(LO.below xw.out hbd).aW OM.self (by decide),D,d1.setCell IB _,d2⟩
    have:=OM.self.aW 2 (.slice (some ⟨g,0,none⟩) st'.length c2)
    simpa using this
   have aac:=HM.out.own (HM.out.below HTM.out hbd) hfs OM.self (by omega) (by decide) (by decide) (by decide) (by decide)
   have hown2:=(Own.below HOWN.out hbd).frB hfs (fun g' hg' e=>OL (Own.below HOWN.out hbd) OM hg' (.inl e))
   have hz2:wr.heap.size=((wr.drewN (nq+1)).setCell ⟨w.heap.size+1,2,none⟩ (.slice (some ⟨g,0,none⟩) st'.length c2)).heap.size:=by simp
   have HF2:Hid (Fr S w ((wr.drewN (nq+1)).setCell ⟨w.heap.size+1,2,none⟩ (.slice (some ⟨g,0,none⟩) st'.length c2))):=Lib.hid (Fr.old (S':=fun k=>S k\/k=w.heap.size+1) ((HFR.out.more fun _=> .inl).trans ((Fr.of_below hbd).trans (hfs.more fun _=> .inr))) (fun k hk=>hk.imp_right fun e=>by omega))
   have XW:=Lib.hid hown2
   have ag6:=Lib.hid zM
   have aad:id∈cs:=acC.out.inn id ((acC.out.mem id).2 (.inr (by simp)))
   have hol:out.length+(st'.length+1)<=cs.length:=by simpa using hroom
   have e1:r+2*(cs.length-out.length)=r+2*(cs.length-(out.length+1))+2:=by omega
   rw[e1]at aac
   have hmet:met.length<=50000:=by
    simp only[List.length_append,List.length_cons,List.length_nil]at hml
    omega
   have HR:=hmr.out (r+2*(cs.length-(out.length+1))) _ _ met st' id zM aac (by rw[<-hz2];exact hz) aad ⟨by omega,by omega⟩
   refine HR.mono ?_
   rintro e w3 (⟨n,hv,rfl,v3,Ul,OO,hf3⟩ | ⟨hv,rfl,OO,hf3⟩)
   ·have aaU:=HC.out.page id aad
    have hkids:∀k∈n.kids,k=0\/k∈cs:=by
     rcases aaU with⟨n',a,b,_⟩ | ⟨a,_⟩
     ·rw[hv]at a;cases a;exact b
     ·rw[hv]at a;cases a
    obtain⟨met',st2,hrm,Qw⟩:=acC.out.step hv hkids
    have acD:Mk.push met st' n.kids=(met',st2):=by
     unfold Mk.Qs at hrm
     rw[hv]at hrm
     injection hrm
    obtain⟨new,hpn,_⟩:=Mk.pR n.kids met st'
    have hl3:met'.length<=(out++ [id]).length+st2.length:=by
     rw[acD]at hpn
     injection hpn with q1 q2
     simp only[List.length_append,List.length_cons,List.length_nil]at hml ⊢
     rw[q1,q2,List.length_append,List.length_append]
     omega
    rw[acD]at Ul
    have hown3:=XW.out.frB hf3 (fun g' hg' a=>by
     rcases a with a | a
     ·have:=HM.out.low g' a
      have:=(World.ownsRow.lt XW.out g' hg').1
      omega
     ·exact OL XW.out ag6.out hg' a)
    have hraw:w3.ownsRow w.heap.size 64 2 (.slice A3 out.length c3) out.length (bT (out.map dJ)):=by have:=hown3;unfold Own at this;rwa [List.length_map]at this
    have OQ:Fr S w w3:=Fr.old (S':=fun k=>S k\/(S k\/MS (w.heap.size+1) w.heap.size (.slice (some ⟨g,0,none⟩) st'.length c2) k)) ((HF2.out.more fun _=> .inl).trans (hf3.more fun _=> .inr)) (fun k hk=>by
     rcases hk with hk | hk | hk | hk | hk
     ·exact .inl hk
     ·exact .inl hk
     ·exact .inr (by omega)
     ·exact .inr (by omega)
     ·have e:g=k:=by injection hk
      exact .inr (by omega))
    have hz3:w.heap.size+2<=w3.heap.size:=by have:=hf3.size;rw[<-hz2]at this;omega
    have H3:=Lib.hid (And.intro hown3 (And.intro Ul (And.intro OO (And.intro OQ Qw))))
    have HL3:=Lib.hid hl3
    have HV:=Lib.hid hv
    have hbase:w.heap.size<=w3.heap.size:=by omega
    have hob:out.length<=50000:=by omega
    clear hown3 Ul OO hf3 OQ Qw hl3 hv aaU hkids hrm acD hpn HR hml hown2 zM aac OM hfs hbd e1 hz2
    go_wp2_with (at_builtin;refine aU rfl _ _ 47 rfl qC Tryz.underlying47 rfl (by decide) rfl hraw rfl (by simp) rfl (by simp[Value.oneCell']) (by unfold maxLen;omega) (by omega) hbase ?_;intro v' w5 hown' hgrow hbel aeR _)
    obtain⟨hown3,Ul,OO,OQ,Qw⟩:=H3.out
    have hg5:=Fr.bW hgrow
    have ag7:=Ul.fr hg5 (fun k hk=>OL hown3 Ul hk)
    have ag8:=HM.out.runs OO hown3 hK hgrow
    have hown5:Own w5 w.heap.size v' ((out++ [id]).map dJ):=by
     rw[List.map_append]
     refine mD (y:=dJ id) ?_
     rw[List.length_map]
     exact hown'
    have hf5:Fr S w w5:=Fr.old (S':=fun k=>S k\/(Value.slice A3 out.length c3).ownBlock=some k) ((OQ.more fun _=> .inl).trans (hg5.more fun _=> .inr)) (fun k hk=>hk.imp_right fun e=>(World.ownsRow.lt hown3 k e).1)
    go_roundg (cs.length-(out.length+1))
    case measure=>omega
    case rel=>exact⟨out++ [id],by simp,Lib.hid ⟨_,v3,met',st2,rfl,ag7,by simpa using ag8,hown5,Qw,fun x hx=>(List.mem_append.1 hx).elim (ag5.out x) (fun a=>by rw[List.mem_singleton.1 a];exact⟨n,HV.out⟩),hf5,Nat.le_trans hz3 hgrow.size,HL3.out⟩⟩
   ·have hb:bad id:=by
     rcases HC.out.page id aad with⟨n',a,_⟩ | ⟨_,a⟩
     ·rw[hv]at a;cases a
     ·exact a
    have OQ:Fr S w w3:=Fr.old (S':=fun k=>S k\/(S k\/MS (w.heap.size+1) w.heap.size (.slice (some ⟨g,0,none⟩) st'.length c2) k)) ((HF2.out.more fun _=> .inl).trans (hf3.more fun _=> .inr)) (fun k hk=>by
     rcases hk with hk | hk | hk | hk | hk
     ·exact .inl hk
     ·exact .inl hk
     ·exact .inr (by omega)
     ·exact .inr (by omega)
     ·have e:g=k:=by injection hk
      exact .inr (by omega))
    have HE:Hid (XU S TM r σ (σ.view disk) bad cs roots w (.returned (.tuple #[.slice none 0 0, .int .i64 3])) w3):=Lib.hid ⟨OQ, .inr ⟨rfl,⟨id,aad,hv,hb⟩,HM.out.less OO (by omega)⟩⟩
    clear OQ hf3 OO hv hb HR hml hown2 zM aac OM hfs hbd e1 hz2
    go_wp2
    go_ret2
    exact HE.out
end
theorem Dz(l:List Int)(n:Int):Rp.Mem (l.map dJ) n ↔ n∈l:=by
 unfold Rp.Mem
 constructor
 ·rintro⟨r,hr,h1,h2⟩
  obtain⟨x,hx,rfl⟩:=List.mem_map.1 hr
  unfold dJ at h1 h2
  simp only at h1 h2
  have:n=x:=by omega
  rw[this];exact hx
 ·intro h
  exact⟨dJ n,List.mem_map.2 ⟨n,h,rfl⟩,Int.le_refl _,Int.le_refl _⟩
theorem Gf{a b:List Int}(h:∀x,x∈a ↔ x∈b):Rp.norm (a.map dJ)=Rp.norm (b.map dJ):=
 Rp.iL _ _ _ _ (Rp.dw _).1 (Rp.dw _).1 (fun n=>by rw[(Rp.dw _).2,(Rp.dw _).2,Dz,Dz,h])
theorem uG{a:List Int}(h:∀x∈a,fJ x/\x<4294967296)(n:Int):Rp.Mem (Rp.norm (a.map dJ)) n ↔ n∈a:=by
 rw[(Rp.dw _).2,Dz]
 constructor
 ·exact fun a=>a.1
 ·intro hn
  have:=h n hn
  unfold fJ at this
  unfold Rp.Most
  exact⟨hn,by omega,by omega⟩
end Go.Proofs.YteppebbmnojapaaGreatDoor
namespace Go.Proofs.YteppebbmnojapaaGreatDoor
open Go.RowKit
def sAt(l:List Run)(k:Nat):Int:=Rp.size (l.take k)
theorem size_append(a b:List Run):Rp.size (a++b)=Rp.size a+Rp.size b:=by
 unfold Rp.size;rw[List.map_append,List.sum_append]
theorem Ll(l:List Run)(k:Nat)(hk:k<l.length):sAt l (k+1)=sAt l k+(l[k].2-l[k].1+1):=by
 unfold sAt
 rw[List.take_succ_eq_append_getElem hk,size_append]
 simp[Rp.size]
theorem acE(l:List Run)(hin:∀y∈l,0<=y.1/\y.1<=y.2/\y.2<=4294967295)(k:Nat):0<=sAt l k/\sAt l k<=4294967296*(k:Int):=by
 induction k with
 |zero=>simp[sAt,Rp.size]
 |succ k ih=>
  by_cases hk:k<l.length
  ·rw[Ll l k hk]
   have:=hin _ (List.getElem_mem hk)
   omega
  ·have e:sAt l (k+1)=sAt l k:=by unfold sAt;rw[List.take_of_length_le (by omega),List.take_of_length_le (by omega)]
   rw[e];omega
theorem count_any(A:Option Addr)(c:Nat)(l:List Run)(w:World)(hr:RS w w.heap.size A l)(hl:l.length<=1000000):Calls Tryz.prog 75 #[.slice A l.length c] w fun e w'=>e= .returned (.int .i64 (Rp.count l))/\Below w.heap.size w w':=by
 have hc:=ak (kH A c l w hr hl)
 have hnl:=bC l
 have hin:=sJ _ 0 (Int.le_refl _) (Rp.dw l).1
 have he:Rp.count l=sAt (Rp.norm l) (Rp.norm l).length:=by unfold sAt Rp.count;rw[List.take_of_length_le (Nat.le_refl _)]
 rw[he]
 clear he
 generalize Rp.norm l=s at*
 obtain⟨q,hq⟩:∃q,q=sAt s s.length:=⟨_,rfl⟩
 rw[<-hq]
 have HQ:=Lib.hid hq
 clear hq
 go_enter Tryz.func75,Tryz.ntmps75
 go_wp2_with fail
 refine hc.out.mono ?_
 intro e w1 he
 obtain⟨A1,c1,rfl,_,r1,b1⟩:=he.open_
 clear he
 go_wp2
 go_loopw [3,9] (fun n i wr=>∃k:Nat,k<=s.length/\i= .int .i64 k/\n= .int .i64 (sAt s k)/\Below w1.heap.size w1 wr) (fun _ i _=>s.length-(intOf i).toNat)
 case atStart=>exact⟨0,by omega,rfl,rfl,Below.refl _ _⟩
 case round=>
  obtain⟨k,hk,rfl,rfl,hbe⟩:=hrel
  have hbd:=acE s hin k
  by_cases hlt:k<s.length
  ·obtain⟨b2,o2,rfl,_,g0,g1⟩:=(r1.below hbe).at_ hlt
   have hsu:=Ll s k hlt
   have hy:=hin _ (List.getElem_mem hlt)
   generalize sAt s k=m at*
   have HSU:=Lib.hid hsu
   clear hsu
   generalize s[k]=y at*
   obtain⟨a,b⟩:=y
   simp only at hy g0 g1
   go_wp2
   go_roundw
   case rel=>exact⟨k+1,by omega,by go_num,by rw[HSU.out],hbe.alloc hbe.size _⟩
   case measure=>simp[intOf];omega
  ·obtain rfl:k=s.length:=by omega
   go_wp2
   go_ret
   exact⟨by rw[HQ.out];rfl,b1.trans (hbe.mono b1.size)⟩
end Go.Proofs.YteppebbmnojapaaGreatDoor
namespace Go.Proofs.YteppebbmnojapaaGreatDoor
open Go.RowKit Go.Shelf Go.Maps
theorem OT{l:List Int}(hn:l.Nodup)(hb:∀x∈l,2<=x/\x<=16384):Rp.count (Rp.norm (l.map dJ))=(l.length:Int):=by
 have hm:=uG (a:=l) (fun x hx=>by have:=hb x hx;unfold fJ;omega)
 have e:Rp.norm (Rp.norm (l.map dJ))=Rp.norm (l.map dJ):=Rp.iL _ _ _ _ (Rp.dw _).1 (Rp.dw _).1 (fun n=>by
  rw[(Rp.dw (Rp.norm (l.map dJ))).2]
  exact⟨fun a=>a.1,fun a=>⟨a,((Rp.dw _).2 n).1 a |>.2⟩⟩)
 rw[Rp.NI,e]
 have hp:(Rp.nums (Rp.norm (l.map dJ))).Perm l:=(List.perm_ext_iff_of_nodup (Rp.vC _ 0 (Rp.dw _).1) hn).2 (fun x=>by rw[Rp.oV,hm])
 rw[hp.length_eq]
section
variable {F:aT}{n:Nat}{a:TAd}{used:List Run}{disk:Tp.aA}{root:Int}{σ:Tp.Pst}{ids:List Int}{es:List Ent}{tok r:Nat}{W w':World}
def aaV(F:aT)(n:Nat)(a:TAd)(used:List Run)(disk:Tp.aA)(root:Int)(σ:Tp.Pst)(ids:List Int)(es:List Ent)(tok r:Nat)(cs:List Int)(W:World)(e:Ending)(w':World):Prop:=
 ∃v,e= .returned (.tuple #[v, .int .i64 0])/\Own w' W.heap.size v (Rp.norm (cs.map dJ))/\FSt F n a used disk root σ ids es tok r w'/\Fr (fun k=>k=F.d) W w'
theorem Lm(cs rs:List Int)(h:FSt F n a used disk root σ ids es tok (r+2*cs.length) W)(hc:(rs= []/\cs= [])\/(rs= [root]/\cs=ids))(hil:ids.length<=50000)(A:Option Addr)(c:Nat)(hls:LS aV W W.heap.size A rs):
  Calls Tryz.prog 74 #[.pointer (some ⟨a.t,0,none⟩), .slice A rs.length c] W (aaV F n a used disk root σ ids es tok r cs W):=by
 obtain⟨hv,hp⟩:=h.Ez
 have htm:=h.on.tm
 have hdt:F.d≠a.t:=by have:=(htm.sep F.d (.inr (.inl rfl))).1;omega
 have M:=Le F (B:=a.B) (t:=a.t) (m:=a.m) htm.low.1 h.hd hdt n W.heap.size htm.low.2.2 used disk
 have hC:Closed (σ.view disk) (fun _=>False) cs:=by
  rcases hc with⟨_,rfl⟩ | ⟨_,rfl⟩
  ·exact⟨fun x hx=>absurd hx List.not_mem_nil,fun x hx=>absurd hx List.not_mem_nil⟩
  ·refine⟨fun x hx=> ?_,fun x hx=> .inl ?_⟩
   ·obtain⟨y,hy⟩:=hv.some_ x hx
    exact(htm.ht_ hy).2
   ·rcases hv with⟨_,_,rfl⟩ | ⟨hh,s,q1,rfl,q2,q3,ht,_⟩
    ·exact absurd hx List.not_mem_nil
    ·obtain⟨y,y1,y2⟩:=Mk.tH ht x hx
     exact⟨y,y1,fun k hk=> .inr (y2 k hk),(iT (htm.ht_ y1).1).i⟩
 have hR:∀x∈rs,x=0\/x∈cs:=by
  rcases hc with⟨rfl,_⟩ | ⟨rfl,rfl⟩
  ·exact fun x hx=>absurd hx List.not_mem_nil
  ·intro x hx
   rw[List.mem_singleton.1 hx]
   rcases hv with⟨q,_,_⟩ | ⟨hh,s,q1,q2,_,_,ht,_⟩
   ·exact .inl q
   ·exact .inr (by rw[<-q1, <-q2];exact Tp.o9 ht)
 have hl:cs.length<=50000/\rs.length<=50000:=by rcases hc with⟨rfl,rfl⟩ | ⟨rfl,rfl⟩<;>simp<;>omega
 refine(Dy (bad:=fun _=>False) M (by intro r σ w id _ hb;exact hb.elim) cs rs hC hR hl.1 hl.2 A c hls htm.tmr (Nat.le_refl _)).mono ?_
 rintro e w' ⟨hf,⟨v,met,out,rfl,hown,hinv,hgood,acF⟩ | ⟨_,⟨x,_,_,hb⟩,_⟩⟩
 ·have hmo:∀x,x∈met ↔ x∈out:=fun x=>by rw[hinv.mem];simp
  have hoa:∀x,x∈out ↔ x∈cs:=fun x=>⟨fun hx=>hinv.inn x ((hmo x).2 hx),fun hx=>by
   rcases hc with⟨_,rfl⟩ | ⟨rfl,rfl⟩
   ·exact absurd hx List.not_mem_nil
   ·exact hinv.done (List.mem_singleton.2 rfl) hv hp x hx⟩
  rw[Gf hoa]at hown
  have hu:a.u≠F.d:=by have:=h.on.hu;have:=h.hd;omega
  exact⟨v,rfl,hown,h.with_ ⟨acF.tm.less (by omega),hf.blk h.on.self hu,h.on.hu⟩,hf⟩
 ·exact hb.elim
theorem aae{v:Int->Option Nd.Node}{x:Ent}(h:Tp.bH v root [x] tok ids)(ht:tok<=1):ids= [root]:=by
 rcases h with⟨_,h,_⟩ | ⟨hh,s,rfl,rfl,q2,q3,ht',_,q5⟩
 ·cases h
 ·have h0:hh=0:=by
   rcases q5 with q5 | q5
   ·exact q5
   ·have:=Nat.pow_pos (n:=hh-1) (show 0<6 by decide)
    omega
  subst h0
  obtain⟨_,b,_⟩:=ht'
  exact b
end
theorem Lp(w:World)(hT:HT w):Calls Tryz.prog 23 #[] w (F8 w):=by
 have HHT:=Lib.hid hT
 have HD:=Lib.hid (fun W=>BR 40 W)
 rw[show qK 40=40 by decide]at HD
 clear hT
 go_enter Tryz.func23,Tryz.ntmps23
 go_wp2_with fail
 refine(HD.out _).mono ?_
 rintro e w2 ⟨d,rfl,hd,b2⟩
 have HFF:=Lib.hid (BU hd b2.size)
 have HB2:=Lib.hid b2
 clear hd b2 HD
 go_wp2_with fail
 refine HFF.out.mono ?_
 rintro e w3 ⟨f,rfl,hf,b3⟩
 have hB3:=HB2.out.trans (b3.mono HB2.out.size)
 have hst:Stg w f d 40 0 20000 Di 2 w3:=F7 (by decide) (by decide) hf (HHT.out.below hB3 HHT.out.1) (Nat.le_refl _) HHT.out.1 (Nat.le_trans HB2.out.size b3.size) hB3 (by decide)
 have HNW:=Lib.hid (Qr hst (by decide))
 clear hf b3 hB3 HFF HB2 hst
 go_wp2_with fail
 refine Calls.mono HNW.out ?_
 rintro e w4 ⟨t,rfl,hbg,b4⟩
 have HTR:=Lib.hid (XL (K:=1) (R0:=20000-288) (D:=20) (T:=0) hbg (by decide) (Tp.bH.none_ _ _) (Nat.le_refl _) (by decide) (by decide))
 clear hbg b4 HNW
 go_wp2_with fail
 refine Calls.mono HTR.out ?_
 rintro e w5 ⟨u,rfl,hg5,b5,hu5⟩
 have HP:=Lib.hid (Z8 hg5 (by decide) (by decide) (by decide) (s:=⟨#[97]⟩) (v:=⟨#[49]⟩) (by kernel_rfl))
 clear hg5 b5 hu5 HTR
 go_wp2_with fail
 refine HP.out.mono ?_
 rintro e w6 ⟨rfl,h6,kp6,_⟩
 obtain⟨⟨F,a,_,hFd,_,hFB,_,rfl,rfl,h1⟩,_,_⟩:=h6
 have hes:En.put [] ⟨#[97]⟩ ⟨#[49]⟩= [(⟨#[97]⟩,⟨#[49]⟩)]:=by kernel_rfl
 rw[hes]at h1
 obtain⟨root,σ,ids,tok,hst,htk,_⟩:=h1.at_
 have hid:ids= [root]:=aae hst.Ez.1 (by omega)
 subst hid
 have hrg:=Tp.iC (room:=max (40:Int) 2) hst.ap (hst.rt.uses root (by simp))
 have HB6:=Lib.hid h1.below
 have hst1:=hst.less (r':=100+2*1) (by omega)
 have HRT:=Lib.hid (pK a.u root 0 w6 hst.on.self)
 have hcnt:=OT (l:= [root]) (by simp) (fun x hx=>by rw[List.mem_singleton.1 hx];omega)
 have hhas:Rp.has (Rp.norm ([root].map dJ)) root=true:=(Rp.zX _ _).2 ⟨by omega,by unfold Rp.Most;omega,(uG (fun x hx=>by rw[List.mem_singleton.1 hx];unfold fJ;omega) root).2 (by simp)⟩
 have hll:=bC ([root].map dJ)
 have hbA:Below w6.heap.size w6 (w6.alloc (.cells #[.int .i64 root] 3)):=(Below.refl _ w6).alloc (Nat.le_refl _) _
 have hls:LS aV (w6.alloc (.cells #[.int .i64 root] 3)) (w6.alloc (.cells #[.int .i64 root] 3)).heap.size (some ⟨w6.heap.size,0,none⟩) [root]:=(LO.one (E:=aV) (base:=0) rfl rfl (Blk.new w6 3 #[.int .i64 root]) (Nat.zero_le _)).ls
 have HM1:=Lib.hid (Lm [root] [root] (hst1.below hbA) (.inr ⟨rfl,rfl⟩) (by simp) _ 1 hls)
 unfold aaV at HM1
 generalize Rp.norm ([root].map dJ)=L at HM1 hcnt hhas hll
 have hl1:L.length<=1000000:=Nat.le_trans hll (by simp)
 have HCN:=Lib.hid hcnt
 have HHA:=Lib.hid hhas
 clear hcnt hhas hll
 have hdz:F.d<w6.heap.size:=Nat.lt_of_lt_of_le hst.hd hst.on.tm.low.2.2
 have HBA:=Lib.hid (HB6.out.trans (hbA.mono HB6.out.size))
 have hwd:w.heap.size<=F.d:=by
  obtain⟨R,_,_,hA⟩:=hst.on.tm.file
  have:=hA.disk.le.1
  omega
 clear h1 kp6 hes hst htk hst1 hls hbA HP
 go_wp2_with fail
 refine HRT.out.mono ?_
 rintro e wq ⟨rfl,hwq⟩
 obtain rfl:=hwq
 go_wp2_with fail
 refine HM1.out.mono ?_
 rintro e w7 ⟨v,rfl,hown,aeV,hf7⟩
 obtain⟨A7,c7,rfl⟩:=hown.form
 have HM2:=Lib.hid (Lm [] [] (r:=100) aeV (.inl ⟨rfl,rfl⟩) (by simp) none 0 LS.nil_)
 have HOWN:=Lib.hid hown
 have HB7:=Lib.hid (HBA.out.trans (hf7.low HBA.out.size (fun k hk=>by omega)))
 clear hown aeV hf7 HM1 HBA HRT
 go_wp2_with fail
 refine HM2.out.mono ?_
 rintro e w8 ⟨v8,rfl,aaW,aeW,hf8⟩
 obtain⟨A8,c8,h8⟩:=aaW.form
 rw[show(Rp.norm (([]:List Int).map dJ)).length=0 from rfl]at h8
 subst h8
 have hob:∀g,(Value.slice A7 L.length c7).ownBlock=some g->¬g=F.d:=fun g hg e=>by
  have h:=(World.ownsRow.lt HOWN.out g hg).1
  rw[World.size_alloc]at h
  omega
 have HO8:=Lib.hid (HOWN.out.frB hf8 hob)
 have aeX:=Lib.hid aeW
 have HB8:=Lib.hid (HB7.out.trans (hf8.low HB7.out.size (fun k hk=>by omega)))
 clear aaW aeW hf8 HM2 HB7 HOWN hob
 have HCT:=Lib.hid (count_any A7 c7 L w8 HO8.out.rs hl1)
 rw[HCN.out]at HCT
 go_wp2_with fail
 refine Calls.mono HCT.out ?_
 rintro e w9 ⟨rfl,hb9⟩
 have ag9:=Lib.hid (pK a.u root 0 w9 (aeX.out.below hb9).on.self)
 have HHS:=Lib.hid (Pq A7 c7 L root w9 (HO8.out.below hb9).rs hl1)
 rw[HHA.out]at HHS
 have HB9:=Lib.hid (HB8.out.trans (hb9.mono HB8.out.size))
 clear hb9 HCT HO8 aeX HB8 HHA
 go_wp2_with fail
 refine ag9.out.mono ?_
 rintro e wq ⟨rfl,hwq⟩
 obtain rfl:=hwq
 go_wp2_with fail
 refine Calls.mono HHS.out ?_
 rintro e w10 ⟨rfl,IC⟩
 have aha:=Lib.hid (HB9.out.trans (IC.mono HB9.out.size))
 clear IC
 go_wp2
 go_ret
 exact⟨rfl,aha.out⟩
end Go.Proofs.YteppebbmnojapaaGreatDoor
namespace Go.Proofs.YteppebbmnojapaaGreatDoor
open Go.RowKit Go.Shelf
namespace Ct
structure Ver where
 id:Nat
 par:Nat
 root:Nat
 edges:Nat
structure Ver.Ok(v:Ver):Prop where
 lo:1<=v.id
 hi:v.id<=1048576
 par:v.par<=1048576
 root:v.root<4294967296
 edges:v.edges<4294967296
def uh(id:Nat):ByteArray:=⟨(86::Cp.be 4 id).toArray⟩
def DC(v:Ver):ByteArray:=⟨(Cp.be 4 v.par++(Cp.be 4 v.root++Cp.be 4 v.edges)).toArray⟩
end Ct
theorem Lr(u:Nat)(w:World):Calls Tryz.prog 26 #[.pointer (some ⟨u,0,none⟩)] w fun e w'=>e= .returned (.pointer (some ⟨w.heap.size,0,none⟩))/\w'=w.alloc (.cells #[.pointer (some ⟨u,0,none⟩)] 154):=by
 go_enter Tryz.func26,Tryz.ntmps26
 go_wp2
 go_ret
 exact⟨rfl,rfl⟩
theorem xA(n:Nat)(h:n<4294967296)(w:World):Calls Tryz.prog 79 #[.int .i64 4, .int .i64 n] w fun e w'=>e= .returned (.tuple #[.string ⟨(Cp.be 4 n).toArray⟩, .int .i64 0])/\Below w.heap.size w w':=by
 have hp:=oJ n w (by omega) (by omega)
 rwa [Int.toNat_natCast]at hp
theorem Ls(id:Nat)(h1:1<=id)(h2:id<=1048576)(w:World):Calls Tryz.prog 78 #[.int .i64 id] w fun e w'=>e= .returned (.tuple #[.string (Ct.uh id), .bool true])/\Below w.heap.size w w':=by
 have hp:=xA id (by omega) w
 have hl:=Cp.au 4 id
 unfold Ct.uh
 generalize Cp.be 4 id=S at*
 have hl2:¬9223372036854775807<1+S.length:=by omega
 clear hl
 go_enter Tryz.func78,Tryz.ntmps78
 have i1:(1:Int)<=(id:Int):=by omega
 have i2:(id:Int)<=1048576:=by omega
 go_wp2_with (go_at_call 79;refine hp.mono ?_;rintro e w1 ⟨rfl,hb⟩)
 go_ret2
 refine⟨?_,hb⟩
 rw[show(⟨#[86]⟩++⟨S.toArray⟩:ByteArray)=⟨(86::S).toArray⟩from by apply ByteArray.ext;simp]
 rfl
theorem Um(g:Nat)(a b c:List UInt8)(w:World)
  (g0:w.cell? ⟨g,0,none⟩=some (.string ⟨a.toArray⟩)) (g1:w.cell? ⟨g,1,none⟩=some (.string ⟨b.toArray⟩)) (g2:w.cell? ⟨g,2,none⟩=some (.string ⟨c.toArray⟩))
  (hlen:(a++(b++c)).length<=1000000):
  Calls Tryz.prog 80 #[.slice (some ⟨g,0,none⟩) 3 3] w fun r w'=>r= .returned (.string ⟨(a++(b++c)).toArray⟩)/\Below w.heap.size w w':=by
 have hbk:=World.block_lt_of_cell? w _ g0
 have hj:Lib.join (List.map (fun x:ByteArray=>x.data.toList) [⟨a.toArray⟩,⟨b.toArray⟩,⟨c.toArray⟩]) []=a++(b++c):=by
  simp only[List.map_cons,List.map_nil]
  simp only[AY]
  simp[Lib.join]
 have hc:=EP g 3 [⟨a.toArray⟩,⟨b.toArray⟩,⟨c.toArray⟩] w (by
  intro j x hx
  rw[Nat.zero_add]
  match j,hx with
  |0,hx=>simp at hx;subst hx;exact g0
  |1,hx=>simp at hx;subst hx;exact g1
  |2,hx=>simp at hx;subst hx;exact g2
  |j+3,hx=>simp at hx) hbk (by simp) (by simp) (by
  show(Lib.join _ []).length<=_
  rw[hj];omega)
 change Calls Tryz.prog 156 #[.slice (some ⟨g,0,none⟩) 3 3, .string ⟨#[]⟩] w fun r w'=>r= .returned (.string ⟨(Lib.join _ []).toArray⟩)/\Below w.heap.size w w' at hc
 rw[hj]at hc
 generalize a++(b++c)=R at*
 go_enter Tryz.func80,Tryz.ntmps80
 go_wp2_with (go_at_call 156;refine hc.mono ?_;rintro r w1 ⟨rfl,hb⟩)
 go_ret
 exact⟨rfl,hb⟩
theorem XY(v:Ct.Ver)(hv:v.Ok)(c u:Nat)(w:World)(hc:Blk w c 154 #[.pointer (some ⟨u,0,none⟩)]){Q:Int->World->Prop}
  (HP:∀W,Below w.heap.size w W->Calls Tryz.prog 65 #[.pointer (some ⟨u,0,none⟩), .string (Ct.uh v.id), .string (Ct.DC v)] W fun e w'=>∃k,e= .returned (.int .i64 k)/\Q k w'/\Blk w' c 154 #[.pointer (some ⟨u,0,none⟩)]):
  Calls Tryz.prog 27 #[.pointer (some ⟨c,0,none⟩), .agg #[.int .i64 v.id, .int .i64 v.par, .int .i64 v.root, .int .i64 v.edges]] w fun e w'=>∃k,e= .returned (.int .i64 k)/\Q k w':=by
 obtain⟨id,par,root,edges⟩:=v
 obtain⟨h1,h2,h3,h4,h5⟩:=hv
 simp only at h1 h2 h3 h4 h5
 have HKEY:=Lib.hid (fun W=>Ls id h1 h2 W)
 have HA:=Lib.hid (fun W=>xA par (by omega) W)
 have HB:=Lib.hid (fun W=>xA root h4 W)
 have HC:=Lib.hid (fun W=>xA edges h5 W)
 have HJ:=Lib.hid (fun g W g0 g1 g2=>Um g (Cp.be 4 par) (Cp.be 4 root) (Cp.be 4 edges) W g0 g1 g2 (by simp[Cp.au]))
 change Hid (∀ (g:Nat) (W:World) _ _ _,Calls Tryz.prog 80 #[.slice (some ⟨g,0,none⟩) 3 3] W fun r w'=>r= .returned (.string (Ct.DC ⟨id,par,root,edges⟩))/\Below W.heap.size W w')at HJ
 simp only at HP
 have Zn:=Lib.hid HP
 clear HP
 generalize Ct.DC ⟨id,par,root,edges⟩=V at*
 generalize Ct.uh id=S at*
 generalize Cp.be 4 par=SA at*
 generalize Cp.be 4 root=SB at*
 generalize Cp.be 4 edges=SC at*
 have hbx:=Blk.new w 56 #[.int .i64 id, .int .i64 par, .int .i64 root, .int .i64 edges]
 have b0:Below w.heap.size w (w.alloc (.cells #[.int .i64 id, .int .i64 par, .int .i64 root, .int .i64 edges] 56)):=(Below.refl _ w).alloc (Nat.le_refl _) _
 have hz0:w.heap.size+1=(w.alloc (.cells #[.int .i64 id, .int .i64 par, .int .i64 root, .int .i64 edges] 56)).heap.size:=(World.size_alloc _ _).symm
 have HK:Hid (∀W,Below (w.alloc (.cells #[.int .i64 id, .int .i64 par, .int .i64 root, .int .i64 edges] 56)).heap.size (w.alloc (.cells #[.int .i64 id, .int .i64 par, .int .i64 root, .int .i64 edges] 56)) W->Blk W w.heap.size 56 #[.int .i64 id, .int .i64 par, .int .i64 root, .int .i64 edges]/\Blk W c 154 #[.pointer (some ⟨u,0,none⟩)]/\Below w.heap.size w W):=
  Lib.hid fun W hW=>⟨hbx.below hW hbx.lt,(hc.alloc _).below hW (by have:=hc.lt;omega),b0.trans (hW.mono (by omega))⟩
 have hpar:¬ (1048576:Int)<(par:Int):=by omega
 have ahu:¬ (par:Int) > 1048576:=by omega
 have hb0:=Below.refl (w.alloc (.cells #[.int .i64 id, .int .i64 par, .int .i64 root, .int .i64 edges] 56)).heap.size (w.alloc (.cells #[.int .i64 id, .int .i64 par, .int .i64 root, .int .i64 edges] 56))
 have g0:=(HK.out _ hb0).1.cell 0
 clear hbx b0 hc
 go_enter Tryz.func27,Tryz.ntmps27
 go_wp2_with fail
 refine(HKEY.out _).mono ?_
 rintro e w1 ⟨rfl,hb1⟩
 have g1:=(HK.out _ hb1).1.cell 1
 go_wp2_with fail
 refine(HA.out _).mono ?_
 rintro e w2 ⟨rfl,hb2⟩
 have q2:=hb1.trans (hb2.mono hb1.size)
 have g2:=(HK.out _ q2).1.cell 2
 clear g1 hb1 hb2
 go_wp2_with fail
 refine(HB.out _).mono ?_
 rintro e w3 ⟨rfl,hb3⟩
 have q3:=q2.trans (hb3.mono q2.size)
 have g3:=(HK.out _ q3).1.cell 3
 clear g2 q2 hb3
 go_wp2_with fail
 refine(HC.out _).mono ?_
 rintro e w4 ⟨rfl,hb4⟩
 have q4:=q3.trans (hb4.mono q3.size)
 have g4:=(HK.out _ q4).1.cell 1
 have HC4:=Lib.hid (HK.out _ q4).2.1
 have HB4:=Lib.hid (HK.out _ q4).2.2
 clear g3 q3 hb4 q4 HKEY HA HB HC HK
 go_wp2_with fail
 have lc:=HC4.out.lt
 have hS0:w4.drew.cell? ⟨c,0,none⟩=some (.pointer (some ⟨u,0,none⟩)):=HC4.out.cell 0
 have hBJ:=Blk.new w4.drew 9 #[.string ⟨SA.toArray⟩, .string ⟨SB.toArray⟩, .string ⟨SC.toArray⟩]
 have bJ:Below w4.heap.size w4 (w4.drew.alloc (.cells #[.string ⟨SA.toArray⟩, .string ⟨SB.toArray⟩, .string ⟨SC.toArray⟩] 9)):=((Below.refl _ w4).drew).alloc (Nat.le_refl _) _
 have hS1:(w4.drew.alloc (.cells #[.string ⟨SA.toArray⟩, .string ⟨SB.toArray⟩, .string ⟨SC.toArray⟩] 9)).cell? ⟨c,0,none⟩=some (.pointer (some ⟨u,0,none⟩)):=(bJ.cell (p:=⟨c,0,none⟩) lc).trans hS0
 have hJ:=HJ.out w4.drew.heap.size _ (hBJ.cell 0) (hBJ.cell 1) (hBJ.cell 2)
 have lJ:c<(w4.drew.alloc (.cells #[.string ⟨SA.toArray⟩, .string ⟨SB.toArray⟩, .string ⟨SC.toArray⟩] 9)).heap.size:=Nat.lt_of_lt_of_le lc bJ.size
 have HJ5:=Lib.hid hJ
 have HS5:Hid (∀W,Below (w4.drew.alloc (.cells #[.string ⟨SA.toArray⟩, .string ⟨SB.toArray⟩, .string ⟨SC.toArray⟩] 9)).heap.size (w4.drew.alloc (.cells #[.string ⟨SA.toArray⟩, .string ⟨SB.toArray⟩, .string ⟨SC.toArray⟩] 9)) W->W.cell? ⟨c,0,none⟩=some (.pointer (some ⟨u,0,none⟩))/\Below w.heap.size w W):=Lib.hid fun W hW=>⟨(hW.cell (p:=⟨c,0,none⟩) lJ).trans hS1,HB4.out.trans ((bJ.trans (hW.mono bJ.size)).mono HB4.out.size)⟩
 clear hBJ bJ hJ HJ g4 hz0 hb0 HC4 HB4
 go_region_held3 (fun W=>W.cell? ⟨c,0,none⟩=some (.pointer (some ⟨u,0,none⟩))) (first | exact hS0 | exact hS1 | exact hS2 | exact hS3)
  (first
  |(go_at_call 80;refine HJ5.out.mono ?_;rintro e w5 ⟨rfl,hb5⟩;have hS2:=(HS5.out w5 hb5).1;have HB5:=Lib.hid (HS5.out w5 hb5).2)
  |(go_at_call 65;refine(Zn.out _ HB5.out).mono ?_;rintro e w6 ⟨k,rfl,hq,hc6⟩;have hS3:w6.cell? ⟨c,0,none⟩=some (.pointer (some ⟨u,0,none⟩)):=hc6.cell 0;have HQ:Hid (Q k w6):=Lib.hid hq))
 all_goals
  clear hq hc6 hS3
  go_wp2
  go_ret
  exact⟨_,rfl,HQ.out⟩
theorem OU:lW 56 4:=⟨_,Tryz.underlying56,by kernel_rfl⟩
theorem Qx(g n:Nat)(y:List UInt8)(hn:n<4294967296)(W:World)(h:Blk W g 372 (aH ⟨Cp.be 4 n++y,0⟩)):
  Calls Tryz.prog 218 #[.pointer (some ⟨g,0,none⟩), .int .i64 4] W fun e w'=>e= .returned (.int .i64 n)/\Blk w' g 372 (aH ⟨y,0⟩)/\W.grownBy w' (some g):=by
 have hi:=fH g _ 4 W h (.inr (.inr rfl))
 rw[sN (Cp.au 4 n),Cp.eu (by omega)]at hi
 exact hi
theorem aeY(g:Nat)(W:World)(h:Blk W g 372 (aH ⟨[],0⟩)):Calls Tryz.prog 219 #[.pointer (some ⟨g,0,none⟩)] W fun e w'=>e= .returned (.int .i64 0)/\Below W.heap.size W w':=
 (sS g _ W h).mono (by
  rintro e w' ⟨x,rfl,hx,hb⟩
  have:x=0:=by
   have h1:(x==0)=true:=hx
   simpa using h1
  subst this
  exact⟨rfl,hb⟩)
theorem aaX(s:List UInt8)(w:World):Calls Tryz.prog 216 #[.string ⟨s.toArray⟩] w fun e w'=>∃g,e= .returned (.pointer (some ⟨g,0,none⟩))/\Blk w' g 372 (aH ⟨s,0⟩)/\Below w.heap.size w w'/\w.heap.size<=g:=
 (mM s w).mono (by
  rintro e w' ⟨rfl,rfl⟩
  exact⟨_,rfl,Blk.new _ _ _,(Below.refl _ w).alloc (Nat.le_refl _) _,Nat.le_refl _⟩)
theorem IE(v:Ct.Ver)(hv:v.Ok)(w:World):
  Calls Tryz.prog 158 #[.agg #[.string (Ct.uh v.id), .string (Ct.DC v)]] w fun e w'=>e= .returned (.tuple #[.agg #[.int .i64 v.id, .int .i64 v.par, .int .i64 v.root, .int .i64 v.edges], .int .i64 0])/\Below w.heap.size w w':=by
 obtain⟨id,par,root,edges⟩:=v
 obtain⟨h1,h2,h3,h4,h5⟩:=hv
 simp only at h1 h2 h3 h4 h5
 have HKEY:=Lib.hid (fun W=>Ls id h1 h2 W)
 have HRK:=Lib.hid (fun W=>aaX (86::Cp.be 4 id) W)
 have HRV:=Lib.hid (fun W=>aaX (Cp.be 4 par++(Cp.be 4 root++Cp.be 4 edges)) W)
 have HBY:=Lib.hid (fun g W h=>(show Calls Tryz.prog 217 #[.pointer (some ⟨g,0,none⟩), .int .i64 1] W fun e w'=>(∃s,e= .returned (.string s))/\Blk w' g 372 (aH ⟨Cp.be 4 id++ [],0⟩)/\W.grownBy w' (some g)from(jR g ⟨[86]++Cp.be 4 id,0⟩ (1:Nat) W h).mono (by
  rw[sO (k:=1) rfl]
  rintro e w' ⟨rfl,hB,hg⟩
  rw[List.append_nil]
  exact⟨⟨_,rfl⟩,hB,hg⟩)))
 have HI0:=Lib.hid (fun g W h=>Qx g id [] (by omega) W h)
 have HI1:=Lib.hid (fun g W h=>Qx g par (Cp.be 4 root++Cp.be 4 edges) (by omega) W h)
 have HI2:=Lib.hid (fun g W h=>Qx g root (Cp.be 4 edges++ []) h4 W h)
 have HI3:=Lib.hid (fun g W h=>Qx g edges [] h5 W h)
 have HE:=Lib.hid (fun g W h=>aeY g W h)
 rw[show Cp.be 4 root++(Cp.be 4 edges++ [])=Cp.be 4 root++Cp.be 4 edges from by rw[List.append_nil]]at HI2
 change Hid (∀W,Calls Tryz.prog 216 #[.string (Ct.uh id)] W _)at HRK
 change Hid (∀W,Calls Tryz.prog 216 #[.string (Ct.DC ⟨id,par,root,edges⟩)] W _)at HRV
 change Hid (∀g W (h:Blk W g 372 (aH ⟨86::Cp.be 4 id,0⟩)),_)at HBY
 simp only
 generalize Ct.DC ⟨id,par,root,edges⟩=V at*
 generalize Ct.uh id=S at*
 generalize hR0:aH ⟨86::Cp.be 4 id,0⟩=R0 at*
 generalize hR1:aH ⟨Cp.be 4 id++ [],0⟩=R1 at*
 generalize hR2:aH ⟨[],0⟩=R2 at*
 generalize hR3:aH ⟨Cp.be 4 par++(Cp.be 4 root++Cp.be 4 edges),0⟩=R3 at*
 generalize hR4:aH ⟨Cp.be 4 root++Cp.be 4 edges,0⟩=R4 at*
 generalize hR5:aH ⟨Cp.be 4 edges++ [],0⟩=R5 at*
 clear hR0 hR1 hR2 hR3 hR4 hR5
 have hbx:=Blk.new w 101 #[.string S, .string V]
 have hbx2:=hbx.alloc (.cells #[.int .i64 0, .int .i64 0, .int .i64 0, .int .i64 0] 56)
 have hbo:=Blk.new (w.alloc (.cells #[.string S, .string V] 101)) 56 #[.int .i64 0, .int .i64 0, .int .i64 0, .int .i64 0]
 rw[World.size_alloc]at hbo
 have b0:Below w.heap.size w ((w.alloc (.cells #[.string S, .string V] 101)).alloc (.cells #[.int .i64 0, .int .i64 0, .int .i64 0, .int .i64 0] 56)):=((Below.refl _ w).alloc (Nat.le_refl _) _).alloc (by simp) _
 have i1:(par:Int)<=1048576:=by omega
 have i2:¬ (1048576:Int)<(par:Int):=by omega
 have HB0:=Lib.hid b0
 have HBX:=Lib.hid hbx2
 have HBO:=Lib.hid hbo
 clear hbx hbx2 hbo b0 h1 h2 h3 h4 h5
 go_enter Tryz.func158,Tryz.ntmps158
 go_wp2_with fail
 generalize hw:((w.alloc (.cells #[.string S, .string V] 101)).alloc (.cells #[.int .i64 0, .int .i64 0, .int .i64 0, .int .i64 0] 56))=w0 at*
 clear hw
 have hS0:w0.drew.cell? ⟨w.heap.size,0,none⟩=some (.string S)/\w0.drew.cell? ⟨w.heap.size,1,none⟩=some (.string V):=⟨HBX.out.cell 0,HBX.out.cell 1⟩
 have lx:=HBX.out.lt
 have HK1:Hid (∀W,Below w0.heap.size w0.drew W->W.cell? ⟨w.heap.size,0,none⟩=some (.string S)/\W.cell? ⟨w.heap.size,1,none⟩=some (.string V)):=Lib.hid fun W hW=>⟨(hW.cell (p:=⟨w.heap.size,0,none⟩) lx).trans hS0.1,(hW.cell (p:=⟨w.heap.size,1,none⟩) lx).trans hS0.2⟩
 go_region_held3 (fun W=>W.cell? ⟨w.heap.size,0,none⟩=some (.string S)/\W.cell? ⟨w.heap.size,1,none⟩=some (.string V)) (first | exact hS0 | exact hS1 | exact hS2)
  (first
  |(go_at_call 216;refine(HRK.out _).mono ?_;rintro e w1 ⟨g1,rfl,HG1,hb1,l1⟩;have hS1:=HK1.out w1 hb1)
  |(go_at_call 216;refine(HRV.out _).mono ?_;rintro e w2 ⟨g2,rfl,HG2,hb2,l2⟩;have hS2:=HK1.out w2 (hb1.trans (hb2.mono hb1.size))))
 all_goals
  have z1:=hb1.size
  have z2:=hb2.size
  have l1':w0.heap.size<=g1:=l1
  have l2':w1.heap.size<=g2:=l2
  have l3':=HG1.lt
  have n12:g1≠g2:=by omega
  have HW2:Hid (Below w.heap.size w w2):=Lib.hid ((HB0.out.drew.trans (hb1.mono HB0.out.drew.size)).trans (hb2.mono (Nat.le_trans HB0.out.drew.size z1)))
  have G1:Hid (Blk w2 g1 372 R0):=Lib.hid (HG1.below hb2 HG1.lt)
  have G2:Hid (Blk w2 g2 372 R3):=Lib.hid HG2
  have GO:Hid (Blk w2 (w.heap.size+1) 56 #[.int .i64 0, .int .i64 0, .int .i64 0, .int .i64 0]):=Lib.hid ((HBO.out.drew.below hb1 HBO.out.lt).below hb2 (Nat.lt_of_lt_of_le HBO.out.lt z1))
  have lg1:w.heap.size+2<=g1:=by have:=HBO.out.lt;omega
  have lg2:w.heap.size+2<=g2:=by omega
  clear HG1 HG2 HBO hb1 hb2 HB0 HBX lx hS0 hS1 hS2 HK1 HRK HRV l1 l2 z1 z2 l1' l2' l3'
  go_wp2_with fail
  refine(HBY.out g1 w2 G1.out).mono ?_
  rintro e w3 ⟨⟨s1,rfl⟩,hB3,hg3⟩
  have G2:Hid (Blk w3 g2 372 R3):=Lib.hid (G2.out.grown hg3 (by simp[Ne.symm n12]))
  have GO:Hid (Blk w3 (w.heap.size+1) 56 #[.int .i64 0, .int .i64 0, .int .i64 0, .int .i64 0]):=Lib.hid (GO.out.grown hg3 (by simp;omega))
  have HW3:Hid (Below w.heap.size w w3):=Lib.hid (HW2.out.grown hg3 HW2.out.size (fun k e=>by cases e;omega))
  have G1:=Lib.hid hB3
  clear hB3 hg3 HW2 HBY
  go_wp2_with fail
  refine(HI0.out g1 w3 G1.out).mono ?_
  rintro e w4 ⟨rfl,hB4,hg4⟩
  have G2:Hid (Blk w4 g2 372 R3):=Lib.hid (G2.out.grown hg4 (by simp[Ne.symm n12]))
  have GO:Hid (Blk w4 (w.heap.size+1) 56 #[.int .i64 0, .int .i64 0, .int .i64 0, .int .i64 0]):=Lib.hid (GO.out.grown hg4 (by simp;omega))
  have HW4:Hid (Below w.heap.size w w4):=Lib.hid (HW3.out.grown hg4 HW3.out.size (fun k e=>by cases e;omega))
  have G1:=Lib.hid hB4
  clear hB4 hg4 HW3 HI0
  go_wp2_with fail
  have z4:=HW4.out.size
  have hV:=Blk.new w4 56 #[.int .i64 id, .int .i64 0, .int .i64 0, .int .i64 0]
  have G1b:=G1.out.alloc (.cells #[.int .i64 id, .int .i64 0, .int .i64 0, .int .i64 0] 56)
  have G2b:=G2.out.alloc (.cells #[.int .i64 id, .int .i64 0, .int .i64 0, .int .i64 0] 56)
  have GOb:=GO.out.alloc (.cells #[.int .i64 id, .int .i64 0, .int .i64 0, .int .i64 0] 56)
  have HWb:=HW4.out.alloc z4 (.cells #[.int .i64 id, .int .i64 0, .int .i64 0, .int .i64 0] 56)
  have lV1:=G1.out.lt
  have lV2:=G2.out.lt
  have lVO:=GO.out.lt
  generalize (w4.alloc (.cells #[.int .i64 id, .int .i64 0, .int .i64 0, .int .i64 0] 56))=w5 at*
  generalize w4.heap.size=gv at*
  clear G1 G2 GO HW4
  refine(HI1.out g2 w5 G2b).mono ?_
  rintro e w6 ⟨rfl,hB6,hg6⟩
  have G1:Hid (Blk w6 g1 372 R2):=Lib.hid (G1b.grown hg6 (by simp[n12]))
  have GO:Hid (Blk w6 (w.heap.size+1) 56 #[.int .i64 0, .int .i64 0, .int .i64 0, .int .i64 0]):=Lib.hid (GOb.grown hg6 (by simp;omega))
  have GV:Hid (Blk w6 gv 56 #[.int .i64 id, .int .i64 0, .int .i64 0, .int .i64 0]):=Lib.hid (hV.grown hg6 (by simp;omega))
  have HW6:Hid (Below w.heap.size w w6):=Lib.hid (HWb.grown hg6 HWb.size (fun k e=>by cases e;omega))
  have G2:=Lib.hid hB6
  clear hB6 hg6 HWb HI1 G1b G2b GOb hV
  go_wp2_with fail
  refine(HI2.out g2 w6 G2.out).mono ?_
  rintro e w7 ⟨rfl,hB7,hg7⟩
  have G1:Hid (Blk w7 g1 372 R2):=Lib.hid (G1.out.grown hg7 (by simp[n12]))
  have GO:Hid (Blk w7 (w.heap.size+1) 56 #[.int .i64 0, .int .i64 0, .int .i64 0, .int .i64 0]):=Lib.hid (GO.out.grown hg7 (by simp;omega))
  have GV:Hid (Blk w7 gv 56 #[.int .i64 id, .int .i64 0, .int .i64 0, .int .i64 0]):=Lib.hid (GV.out.grown hg7 (by simp;omega))
  have HW7:Hid (Below w.heap.size w w7):=Lib.hid (HW6.out.grown hg7 HW6.out.size (fun k e=>by cases e;omega))
  have G2:=Lib.hid hB7
  clear hB7 hg7 HW6 HI2
  go_wp2_with fail
  refine(HI3.out g2 w7 G2.out).mono ?_
  rintro e w8 ⟨rfl,hB8,hg8⟩
  have G1:Hid (Blk w8 g1 372 R2):=Lib.hid (G1.out.grown hg8 (by simp[n12]))
  have GO:Hid (Blk w8 (w.heap.size+1) 56 #[.int .i64 0, .int .i64 0, .int .i64 0, .int .i64 0]):=Lib.hid (GO.out.grown hg8 (by simp;omega))
  have GV:Hid (Blk w8 gv 56 #[.int .i64 id, .int .i64 0, .int .i64 0, .int .i64 0]):=Lib.hid (GV.out.grown hg8 (by simp;omega))
  have HW8:Hid (Below w.heap.size w w8):=Lib.hid (HW7.out.grown hg8 HW7.out.size (fun k e=>by cases e;omega))
  have G2:=Lib.hid hB8
  clear hB8 hg8 HW7 HI3
  have lgv:=GV.out.lt
  have fv1:=GV.out.frozen 1
  have fv2:=GV.out.frozen 2
  have fv3:=GV.out.frozen 3
  have cv0:=GV.out.cell 0
  have cv1:=GV.out.cell 1
  have cv2:=GV.out.cell 2
  have cv3:=GV.out.cell 3
  go_wp2_with fail
  have hg9:w8.grownBy (((w8.setCell ⟨gv,1,none⟩ (.int .i64 par)).setCell ⟨gv,2,none⟩ (.int .i64 root)).setCell ⟨gv,3,none⟩ (.int .i64 edges)) (some gv):=aQ (p:=⟨gv,3,none⟩) (aQ (p:=⟨gv,2,none⟩) (aQ (p:=⟨gv,1,none⟩) (World.grownBy.refl w8 (some gv)) (.inl rfl) _) (.inl rfl) _) (.inl rfl) _
  have hV9:Blk (((w8.setCell ⟨gv,1,none⟩ (.int .i64 par)).setCell ⟨gv,2,none⟩ (.int .i64 root)).setCell ⟨gv,3,none⟩ (.int .i64 edges)) gv 56 #[.int .i64 id, .int .i64 par, .int .i64 root, .int .i64 edges]:=((GV.out.aW 1 (.int .i64 par)).aW 2 (.int .i64 root)).aW 3 (.int .i64 edges)
  have z8:=HW8.out.size
  generalize (((w8.setCell ⟨gv,1,none⟩ (.int .i64 par)).setCell ⟨gv,2,none⟩ (.int .i64 root)).setCell ⟨gv,3,none⟩ (.int .i64 edges))=w9 at*
  have hG1:=G1.out.grown hg9 (by simp;omega)
  have hG2:=G2.out.grown hg9 (by simp;omega)
  have hGO:=GO.out.grown hg9 (by simp;omega)
  have hW9:=HW8.out.grown hg9 HW8.out.size (fun k e=>by cases e;omega)
  clear hg9 cv0 cv1 cv2 cv3 fv1 fv2 fv3 G1 G2 GO GV HW8 z8 lgv
  refine(HKEY.out w9).mono ?_
  rintro e w10 ⟨rfl,IC⟩
  have G1:=Lib.hid (hG1.below IC hG1.lt)
  have G2:=Lib.hid (hG2.below IC hG2.lt)
  have GO:=Lib.hid (hGO.below IC hGO.lt)
  have GV:=Lib.hid (hV9.below IC hV9.lt)
  have acG:=Lib.hid (hW9.trans (IC.mono hW9.size))
  clear hG1 hG2 hGO hV9 hW9 IC HKEY
  go_wp2_with fail
  refine(HE.out g1 w10 G1.out).mono ?_
  rintro e w11 ⟨rfl,Jt⟩
  have G2b:=G2.out.below Jt G2.out.lt
  have GOb:=GO.out.below Jt GO.out.lt
  have GVb:=GV.out.below Jt GV.out.lt
  have HWb:=acG.out.trans (Jt.mono acG.out.size)
  clear G1 G2 GO GV acG Jt
  go_wp2_with fail
  refine(HE.out g2 w11 G2b).mono ?_
  rintro e w12 ⟨rfl,lU⟩
  have GO:=Lib.hid (GOb.below lU GOb.lt)
  have Un:=GVb.below lU GVb.lt
  have HW:=Lib.hid (HWb.trans (lU.mono HWb.size))
  clear G2b GOb GVb HWb lU HE
  have cv0:=Un.cell 0
  have cv1:=Un.cell 1
  have cv2:=Un.cell 2
  have cv3:=Un.cell 3
  have lgv:=Un.lt
  have lgo:=GO.out.lt
  have fo0:=GO.out.frozen 0
  have fo1:=GO.out.frozen 1
  have fo2:=GO.out.frozen 2
  have fo3:=GO.out.frozen 3
  have co0:=GO.out.cell 0
  have co1:=GO.out.cell 1
  have co2:=GO.out.cell 2
  have co3:=GO.out.cell 3
  clear Un
  go_wp2
  try simp only[Exit.inBlock,Exit.then]
  refine bodyPost_ret (aO OU rfl rfl (GO.out.kS _ _ _ _) rfl) rfl ?_
  exact⟨rfl,HW.out.grown (aQ (p:=⟨w.heap.size+1,3,none⟩) (aQ (p:=⟨w.heap.size+1,2,none⟩) (aQ (p:=⟨w.heap.size+1,1,none⟩) (aQ (p:=⟨w.heap.size+1,0,none⟩) (World.grownBy.refl w12 (some (w.heap.size+1))) (.inl rfl) _) (.inl rfl) _) (.inl rfl) _) (.inl rfl) _) HW.out.size (fun k e=>by cases e;omega)⟩
def aaf:Enc Ct.Ver:=⟨fun v=> [.int .i64 v.id, .int .i64 v.par, .int .i64 v.root, .int .i64 v.edges],4,fun _=>rfl,by decide,fun x u hu=>by simp at hu;rcases hu with rfl | rfl | rfl | rfl<;>rfl⟩
theorem aeZ:EI Tryz.prog 56 (.agg #[.int .i64 0, .int .i64 0, .int .i64 0, .int .i64 0]) 4 32:=EI.mk (by kernel_rfl)
def Ct.kX(v:Ct.Ver):Ent:=(Ct.uh v.id,Ct.DC v)
section
variable {S:Nat->Prop}{B t:Nat}{room:Int}{disk:Tp.aA}{TM:Nat->Tp.Pst->World->Prop}
def aaY(S:Nat->Prop)(B t u:Nat)(TM:Nat->Tp.Pst->World->Prop)(root:Int)(r:Nat)(σ:Tp.Pst)(vs:List Ct.Ver)(w:World)(e:Ending)(w':World):Prop:=
 ∃A c,e= .returned (.tuple #[.slice A vs.length c, .int .i64 0])/\LO aaf 56 w' w.heap.size (.slice A vs.length c) vs/\On S B t u TM root 0 r σ w'/\Fr S w w'
theorem XZ(M:fU S B t room disk TM)(u:Nat)(root:Int)(frm hi_:ByteArray)(vs:List Ct.Ver)(hok:∀v∈vs,v.Ok)(hlen:vs.length<=100000)(r:Nat)(σ:Tp.Pst)(w:World)
  (hS:Calls Tryz.prog 54 #[.pointer (some ⟨u,0,none⟩), .string frm, .string hi_] w (FX S B t u TM root r σ (vs.map Ct.kX) w)):
  Calls Tryz.prog 157 #[.pointer (some ⟨u,0,none⟩), .string frm, .string hi_, .func (.func 158) #[] #[]] w (aaY S B t u TM root r σ vs w):=by
 have HS:=Lib.hid hS
 have HM:=Lib.hid M
 have HV:=Lib.hid (fun v hv W=>IE v (hok v hv) W)
 clear hS M hok
 go_enter Tryz.func157,Tryz.ntmps157
 go_wp2_with fail
 refine(HS.out).mono ?_
 rintro e w1 ⟨A0,c0,rfl,hl,hon,hf⟩
 rw[List.length_map]at hl
 rw[List.length_map]
 have hls:=hl.ls
 have HON:=Lib.hid hon
 have HF:=Lib.hid hf
 have hz:=hf.size
 clear hl hon hf HS
 go_wp2
 go_loopw [12,29] (fun o i wr=>∃j:Nat,j<=vs.length/\i= .int .i64 j/\LO aaf 56 wr w1.heap.size o (vs.take j)/\Below w1.heap.size w1 wr) (fun _ i _=>vs.length-(intOf i).toNat)
 case atStart=>exact⟨0,Nat.zero_le _,rfl,LO.nil_ _ _,Below.refl _ _⟩
 case round=>
  obtain⟨j,hj,rfl,hown,hb⟩:=hrel
  obtain⟨A,c,rfl⟩:=hown.form
  by_cases hlt:j<vs.length
  ·obtain⟨b,off,rfl,hbb,k0,k1⟩:=hls.ent (k:=j) (by simpa using hlt)
   rw[List.getElem_map]at k0 k1
   have HVj:=Lib.hid (HV.out vs[j] (List.getElem_mem hlt))
   have htk:vs.take (j+1)=vs.take j++ [vs[j]]:=List.take_succ_eq_append_getElem hlt
   have HTK:=Lib.hid htk
   have hll:(vs.take j).length=j:=by rw[List.length_take];omega
   generalize vs[j]=v at*
   obtain⟨id,par,rt,edges⟩:=v
   simp only[Ct.kX]at k0 k1 HVj
   generalize Ct.uh id=SK at*
   generalize Ct.DC ⟨id,par,rt,edges⟩=SV at*
   have m0:=(hb.cell (p:=⟨b,off+j*2,none⟩) hbb).trans k0
   have m1:=(hb.cell (p:=⟨b,off+j*2+1,none⟩) hbb).trans k1
   have hbe:=Blk.new wr 101 #[.string SK, .string SV]
   have b2:=hb.alloc hb.size (.cells #[.string SK, .string SV] 101)
   have o2:=hown.below (Below.alloc (Below.refl _ wr) (Nat.le_refl _) (.cells #[.string SK, .string SV] 101))
   have e0:=hbe.cell 0
   have e1:=hbe.cell 1
   clear k0 k1 htk hown hbe
   go_wp2_with fail
   refine(HVj.out _).mono ?_
   rintro e w5 ⟨rfl,hb5⟩
   have b5:=b2.trans (hb5.mono b2.size)
   have o5:=o2.below hb5
   have b6:=b5.alloc b5.size (.cells #[.int .i64 id, .int .i64 par, .int .i64 rt, .int .i64 edges] 56)
   have o6:=o5.below (Below.alloc (Below.refl _ w5) (Nat.le_refl _) (.cells #[.int .i64 id, .int .i64 par, .int .i64 rt, .int .i64 edges] 56))
   have hbv:=Blk.new w5 56 #[.int .i64 id, .int .i64 par, .int .i64 rt, .int .i64 edges]
   have v0:=hbv.cell 0
   have v1:=hbv.cell 1
   have v2:=hbv.cell 2
   have v3:=hbv.cell 3
   have hraw:=LO.raw o6 hll (show aaf.size=4 from rfl)
   rw[hll]at hraw
   have hz6:=b6.size
   rw[hll]
   clear b2 o2 e0 e1 b5 o5 o6 hb5 hbv HVj hll
   go_wp2_with (at_builtin;refine aU rfl _ _ 160 rfl aeZ Tryz.underlying160 rfl (by decide) rfl hraw rfl (by simp) rfl (by simp[Value.oneCell']) (by unfold maxLen;omega) (by omega) hz6 ?_;intro v' w7 hown' hgrow hbel _ _)
   have hsn:=LO.snoc (E:=aaf) (x:=(⟨id,par,rt,edges⟩:Ct.Ver)) (l:=vs.take j) (n:=j) (by rw[List.length_take];omega) rfl rfl hown'
   rw[<-HTK.out]at hsn
   exact⟨⟨j+1,hlt,by go_num,hsn,b6.trans hbel⟩,by simp[intOf];omega⟩
  ·have hjl:j=vs.length:=by omega
   subst hjl
   rw[List.take_length]at hown ⊢
   have hO:=Lib.hid (hown.lower hz)
   have hB:=Lib.hid hb
   clear hown hb
   go_wp2
   go_ret2
   exact⟨_,_,rfl,hO.out,HON.out.below HM.out hB.out,HF.out.trans (.of_below hB.out)⟩
theorem Uo(M:fU S B t room disk TM)(c u:Nat)(root:Int)(vs:List Ct.Ver)(hok:∀v∈vs,v.Ok)(hlen:vs.length<=100000)(r:Nat)(σ:Tp.Pst)(w:World)(hc:Blk w c 154 #[.pointer (some ⟨u,0,none⟩)])
  (hS:Calls Tryz.prog 54 #[.pointer (some ⟨u,0,none⟩), .string ⟨#[86]⟩, .string ⟨#[87]⟩] w (FX S B t u TM root r σ (vs.map Ct.kX) w)):
  Calls Tryz.prog 81 #[.pointer (some ⟨c,0,none⟩)] w (aaY S B t u TM root r σ vs w):=by
 have HC:=Lib.hid (XZ M u root ⟨#[86]⟩ ⟨#[87]⟩ vs hok hlen r σ w hS)
 have c0:=hc.cell 0
 clear hS hok M
 go_enter Tryz.func81,Tryz.ntmps81
 go_wp2_with fail
 refine HC.out.mono ?_
 rintro e w1 ⟨A,k,rfl,h1,h2,h3⟩
 have H1:=Lib.hid h1
 have H2:=Lib.hid h2
 have H3:=Lib.hid h3
 clear h1 h2 h3 HC c0 hc
 go_wp2
 go_ret2
 exact⟨_,_,rfl,H1.out,H2.out,H3.out⟩
end
end Go.Proofs.YteppebbmnojapaaGreatDoor
