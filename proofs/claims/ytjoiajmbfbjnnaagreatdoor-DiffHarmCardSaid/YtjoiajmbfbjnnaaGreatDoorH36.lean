/- Part of this proof. -/
import Derived.Test.YtjoiajmbfbjnnaaGreatDoorH35
set_option maxRecDepth 100000
set_option maxHeartbeats 8000000
namespace En
theorem srt_append{p a:List Ent} :Srt (p++a) ↔ Srt p/\Srt a/\∀x∈p,∀y∈a,lt x.1 y.1=true:=List.pairwise_append
theorem srt_mid{p a:List Ent}{x:Ent}(h:Srt (p++x::a)):(∀y∈p,lt y.1 x.1=true)/\(∀y∈a,lt x.1 y.1=true)/\Srt (p++a):=by
 obtain⟨h1,h2,h3⟩:=srt_append.1 h
 obtain⟨h4,h5⟩:=srt_cons.1 h2
 exact⟨fun y hy=>h3 y hy x List.mem_cons_self,h4,srt_append.2 ⟨h1,h5,fun u hu v hv=>h3 u hu v (List.mem_cons_of_mem _ hv)⟩⟩
theorem del_mid{p a:List Ent}{x:Ent}(h:Srt (p++x::a)):del (p++x::a) x.1=p++a:=by
 obtain⟨h1,h2,h3⟩:=srt_mid h
 refine srt_ext (srt_del h _) h3 fun z=> ?_
 rw[mem_del,List.mem_append,List.mem_cons,List.mem_append]
 constructor
 ·rintro⟨hz | rfl | hz,hne⟩
  ·exact .inl hz
  ·exact absurd rfl hne
  ·exact .inr hz
 ·rintro(hz | hz)
  ·exact⟨.inl hz,lt_ne (h1 z hz)⟩
  ·exact⟨.inr (.inr hz),(lt_ne (h2 z hz)).symm⟩
theorem put_mid{p a:List Ent}{y:Ent}(h:Srt (p++a))(h':Srt (p++y::a)):put (p++a) y.1 y.2=p++y::a:=by
 obtain⟨h1,h2,_⟩:=srt_mid h'
 refine srt_ext (srt_put h _ _) h' fun z=> ?_
 rw[mem_put,List.mem_append,List.mem_append,List.mem_cons]
 constructor
 ·rintro(rfl | ⟨hz | hz,_⟩)
  ·exact .inr (.inl rfl)
  ·exact .inl hz
  ·exact .inr (.inr hz)
 ·rintro(hz | rfl | hz)
  ·exact .inr ⟨.inl hz,lt_ne (h1 z hz)⟩
  ·exact .inl rfl
  ·exact .inr ⟨.inr hz,(lt_ne (h2 z hz)).symm⟩
theorem put_over{p a:List Ent}{x y:Ent}(h:Srt (p++x::a))(e:x.1=y.1):put (p++x::a) y.1 y.2=p++y::a:=by
 obtain⟨h1,h2,h3⟩:=srt_mid h
 obtain⟨g1,g2,g3⟩:=srt_append.1 h3
 have h':Srt (p++y::a):=srt_append.2 ⟨g1,srt_cons.2 ⟨fun z hz=>e ▸ h2 z hz,g2⟩,fun u hu v hv=>by
  rcases List.mem_cons.1 hv with rfl | hv
  ·exact e ▸ h1 u hu
  ·exact g3 u hu v hv⟩
 have:put (p++x::a) y.1 y.2=put (p++a) y.1 y.2:=by
  unfold put
  rw[<-e,del_mid h]
  congr 1
  unfold del
  rw[List.filter_eq_self.2]
  intro z hz
  rw[Bool.not_eq_true',eqs_false]
  rcases List.mem_append.1 hz with hz | hz
  ·exact lt_ne (h1 z hz)
  ·exact(lt_ne (h2 z hz)).symm
 rw[this,put_mid h3 h']
def All(l:List Ent):Prop:=∀x∈l,may x.1 x.2=true
theorem right_of{l:List Ent}(h:All l)(hs:Srt l):right l=true:=(right_iff l).2 ⟨h,hs⟩
theorem ap_merge:∀ (n:Nat) (p a b:List Ent),a.length+b.length<=n->Srt (p++a)->Srt (p++b)->All (p++a)->All (p++b)->ap (p++a) (mergeD a b)=p++b
 |_,p, [], [],_,_,_,_,_=>rfl
 |0,_,x::a,_,h,_,_,_,_=>by simp at h
 |0,_, [],y::b,h,_,_,_,_=>by simp at h
 |n+1,p,x::a, [],h,ha,hb,ma,mb=>by
  rw[merge_a,ap_cons]
  have e:ap1 (p++x::a) (dOld x)=p++a:=by
   unfold ap1;rw[right_of ma ha];exact del_mid ha
  rw[e]
  exact ap_merge n p a [] (by simp at h ⊢;omega) (srt_mid ha).2.2 hb (fun z hz=>ma z (by rcases List.mem_append.1 hz with hz | hz;exact List.mem_append_left _ hz;exact List.mem_append_right _ (List.mem_cons_of_mem _ hz))) mb
 |n+1,p, [],y::b,h,ha,hb,ma,mb=>by
  rw[merge_b,ap_cons]
  have hmy:may y.1 y.2=true:=mb y (by simp)
  have h1:Srt (p++y:: []):=by
   obtain⟨g1,_,_⟩:=srt_mid hb
   rw[List.append_nil]at ha
   exact srt_append.2 ⟨ha,by simp[Srt],fun u hu v hv=>by simp at hv;subst hv;exact g1 u hu⟩
  have e:ap1 (p++ []) (dNew y)=(p++ [y])++ []:=by
   unfold ap1;rw[right_of ma ha]
   show(if may y.1 y.2=true then put (p++ []) y.1 y.2 else p++ [])=_
   rw[if_pos hmy,put_mid ha h1];simp
  rw[e,ap_merge n (p++ [y]) [] b (by simp at h ⊢;omega) (by simpa using h1) (by simpa using hb) (fun z hz=>by
   simp at hz
   rcases hz with hz | rfl
   ·exact ma z (by simpa using hz)
   ·exact hmy) (by simpa using mb)]
  simp
 |n+1,p,x::a,y::b,h,ha,hb,ma,mb=>by
  simp at h
  obtain⟨xa1,xa2,xa3⟩:=srt_mid ha
  obtain⟨yb1,yb2,yb3⟩:=srt_mid hb
  have mal:All (p++a):=fun z hz=>ma z (by rcases List.mem_append.1 hz with hz | hz;exact List.mem_append_left _ hz;exact List.mem_append_right _ (List.mem_cons_of_mem _ hz))
  have hmy:may y.1 y.2=true:=mb y (by simp)
  have hmx:may x.1 x.2=true:=ma x (by simp)
  rw[merge_ab]
  rcases lt_tri x.1 y.1 with hxy | hxy | hxy
  ·rw[if_pos hxy,ap_cons]
   have e:ap1 (p++x::a) (dOld x)=p++a:=by unfold ap1;rw[right_of ma ha];exact del_mid ha
   rw[e]
   exact ap_merge n p a (y::b) (by simp;omega) xa3 hb mal mb
  ·have n1:lt x.1 y.1=false:=by rw[hxy];exact lt_irrefl _
   have n2:lt y.1 x.1=false:=by rw[hxy];exact lt_irrefl _
   rw[n1,n2]
   simp only[Bool.false_eq_true,if_false]
   have hy':Srt (p++y::a):=by
    obtain⟨g1,g2,g3⟩:=srt_append.1 xa3
    exact srt_append.2 ⟨g1,srt_cons.2 ⟨fun z hz=>hxy ▸ xa2 z hz,g2⟩,fun u hu v hv=>by
     rcases List.mem_cons.1 hv with rfl | hv
     ·exact hxy ▸ xa1 u hu
     ·exact g3 u hu v hv⟩
   have step:ap (p++x::a) (dBoth x y)=p++y::a:=by
    unfold dBoth
    by_cases hv:eqs x.2 y.2=true
    ·rw[if_pos hv,ap_nil]
     have:x=y:=Prod.ext hxy (eqs_iff.1 hv)
     rw[this]
    ·rw[if_neg hv,ap_cons,ap_nil]
     unfold ap1
     rw[right_of ma ha]
     show(if may x.1 y.2=true then put (p++x::a) x.1 y.2 else p++x::a)=_
     rw[hxy,if_pos hmy]
     exact put_over ha hxy
   rw[ap_append,step]
   have h2:=ap_merge n (p++ [y]) a b (by omega) (by simpa using hy') (by simpa using hb) (fun z hz=>by
    simp at hz
    rcases hz with hz | rfl | hz
    ·exact ma z (by simp[hz])
    ·exact hmy
    ·exact ma z (by simp[hz])) (by simpa using mb)
   simpa using h2
  ·have n1:=lt_not hxy
   rw[n1,hxy]
   simp only[Bool.false_eq_true,if_false,if_true]
   rw[ap_cons]
   have hall:Srt (p++y::x::a):=by
    obtain⟨g1,g2,g3⟩:=srt_append.1 ha
    exact srt_append.2 ⟨g1,srt_cons.2 ⟨fun z hz=>by
     rcases List.mem_cons.1 hz with rfl | hz
     ·exact hxy
     ·exact lt_trans hxy (xa2 z hz),g2⟩,fun u hu v hv=>by
     rcases List.mem_cons.1 hv with rfl | hv
     ·exact yb1 u hu
     ·exact g3 u hu v hv⟩
   have e:ap1 (p++x::a) (dNew y)=(p++ [y])++x::a:=by
    unfold ap1;rw[right_of ma ha]
    show(if may y.1 y.2=true then put (p++x::a) y.1 y.2 else p++x::a)=_
    rw[if_pos hmy,put_mid ha hall];simp
   rw[e,ap_merge n (p++ [y]) (x::a) b (by simp;omega) (by simpa using hall) (by simpa using hb) (fun z hz=>by
    simp at hz
    rcases hz with hz | rfl | rfl | hz
    ·exact ma z (by simp[hz])
    ·exact hmy
    ·exact hmx
    ·exact ma z (by simp[hz])) (by simpa using mb)]
   simp
theorem ap_there{a b:List Ent}(ha:right a=true)(hb:right b=true):ap a (mergeD a b)=b:=by
 obtain⟨a1,a2⟩:=(right_iff a).1 ha
 obtain⟨b1,b2⟩:=(right_iff b).1 hb
 simpa using ap_merge (a.length+b.length) [] a b (Nat.le_refl _) a2 b2 a1 b1
def turn(d:Dl):Dl:=⟨d.key,d.new,d.old,d.is,d.was⟩
end En
namespace Td
open Nd En Tp
structure It where
 pg:Int
 d:Nat
 key:Str
 val:Str
def itEnt(x:Ent):It:=⟨0,0,x.1,x.2⟩
def kidsFrom(d:Nat):List Int->List Str->Str->List It
 | [],_,_=> []
 |k::r,ks,low=>⟨k,d,low,nil⟩::kidsFrom d r ks.tail (ks.headD nil)
def its(n:Node)(x:It):List It:=n.ents.map itEnt++kidsFrom (x.d+1) n.kids n.keys x.key
def opn(v:Int->Option Node)(x:It)(a:List It):Option (List It):=if 24<=x.d then none else match v x.pg with
 |none=>none
 |some n=>some (its n x++a)
abbrev St:=List It × List It × List Dl
def x2(x:It):Ent:=(x.key,x.val)
def stepD(v:Int->Option Node):List It->List It->List Dl->Option (Option St)
 | [], [],_=>some none
 |x::a, [],o=>if x.pg=0 then some (some (a, [],o++ [dOld (x2 x)]))else(opn v x a).map fun a'=>some (a', [],o)
 | [],y::b,o=>if y.pg=0 then some (some ([],b,o++ [dNew (x2 y)]))else(opn v y b).map fun b'=>some ([],b',o)
 |x::a,y::b,o=>
  if x.pg≠0/\x.pg=y.pg then some (some (a,b,o))
  else if x.pg=0/\lt x.key y.key=true then some (some (a,y::b,o++ [dOld (x2 x)]))
  else if y.pg=0/\lt y.key x.key=true then some (some (x::a,b,o++ [dNew (x2 y)]))
  else if x.pg≠0/\(y.pg=0\/x.d<=y.d)then match opn v x a with
   |none=>none
   |some a'=>if y.pg≠0/\x.d=y.d then(opn v y b).map fun b'=>some (a',b',o)else some (some (a',y::b,o))
  else if y.pg≠0 then(opn v y b).map fun b'=>some (x::a,b',o)
  else some (some (a,b,o++dBoth (x2 x) (x2 y)))
theorem step_0y(v:Int->Option Node)(y:It)(b:List It)(o:List Dl):stepD v [] (y::b) o=if y.pg=0 then some (some ([],b,o++ [dNew (x2 y)]))else(opn v y b).map fun b'=>some ([],b',o):=rfl
theorem step_x0(v:Int->Option Node)(x:It)(a:List It)(o:List Dl):stepD v (x::a) [] o=if x.pg=0 then some (some (a, [],o++ [dOld (x2 x)]))else(opn v x a).map fun a'=>some (a', [],o):=rfl
theorem step_xy(v:Int->Option Node)(x y:It)(a b:List It)(o:List Dl):stepD v (x::a) (y::b) o=
  if x.pg≠0/\x.pg=y.pg then some (some (a,b,o))
  else if x.pg=0/\lt x.key y.key=true then some (some (a,y::b,o++ [dOld (x2 x)]))
  else if y.pg=0/\lt y.key x.key=true then some (some (x::a,b,o++ [dNew (x2 y)]))
  else if x.pg≠0/\(y.pg=0\/x.d<=y.d)then match opn v x a with
   |none=>none
   |some a'=>if y.pg≠0/\x.d=y.d then(opn v y b).map fun b'=>some (a',b',o)else some (some (a',y::b,o))
  else if y.pg≠0 then(opn v y b).map fun b'=>some (x::a,b',o)
  else some (some (a,b,o++dBoth (x2 x) (x2 y))):=rfl
def ItAt(v:Int->Option Node)(x:It)(l:List Ent)(m:Nat):Prop:=
 (x.pg=0/\l= [x2 x]/\m=1)\/∃h s hi,x.pg=s.id/\0<x.pg/\Tr v h (some x.key) hi s/\(∀i∈s.ids,0<i)/\x.d+h<24/\l=s.es/\m=s.ids.length+s.es.length
def Sd(v:Int->Option Node):List It->List Ent->Nat->Prop
 | [],L,m=>L= []/\m=0
 |x::a,L,m=>∃l L' k m',L=l++L'/\m=k+m'/\ItAt v x l k/\Sd v a L' m'
theorem ItAt.ne{v:Int->Option Node}{x:It}{l:List Ent}{m:Nat}(h:ItAt v x l m):l≠ []:=by
 rcases h with⟨_,rfl,_⟩ | ⟨hh,s,hi,_,_,ht,_,_,rfl,_⟩
 ·simp
 ·exact(tr_good v hh).ne ht
theorem ItAt.low{v:Int->Option Node}{x:It}{l:List Ent}{m:Nat}(h:ItAt v x l m):∀z∈l,lt z.1 x.key=false:=by
 rcases h with⟨_,rfl,_⟩ | ⟨hh,s,hi,_,_,ht,_,_,rfl,_⟩
 ·intro z hz
  obtain rfl:z=x2 x:=by simpa using hz
  exact lt_irrefl _
 ·exact fun z hz=>gtLo_some.1 ((tr_good v hh).inn ht z hz).1
theorem Sd.head{v:Int->Option Node}{x:It}{a:List It}{L:List Ent}{m:Nat}(h:Sd v (x::a) L m):∃z L',L=z::L'/\lt z.1 x.key=false:=by
 obtain⟨l,L',k,m',rfl,_,h1,_⟩:=h
 cases l with
 |nil=>exact absurd rfl h1.ne
 |cons z r=>exact⟨z,r++L',rfl,h1.low z List.mem_cons_self⟩
theorem Sd.app{v:Int->Option Node} :∀ {p:List It} {P:List Ent} {k:Nat} {a:List It} {A:List Ent} {m:Nat},Sd v p P k->Sd v a A m->Sd v (p++a) (P++A) (k+m)
 | [],P,k,a,A,m,h,h'=>by obtain⟨rfl,rfl⟩:=h;simpa using h'
 |x::p,P,k,a,A,m,h,h'=>by
  obtain⟨l,L',k1,m1,rfl,rfl,h1,h2⟩:=h
  exact⟨l,L'++A,k1,m1+m,by rw[List.append_assoc],by omega,h1,Sd.app h2 h'⟩
theorem sd_ents{v:Int->Option Node} :∀l:List Ent,Sd v (l.map itEnt) l l.length
 | []=>⟨rfl,rfl⟩
 |x::l=>⟨[x],l,1,l.length,rfl,by rw[List.length_cons];omega, .inl ⟨rfl,rfl,rfl⟩,sd_ents l⟩
theorem sd_kids{v:Int->Option Node}{h d:Nat}(hd:d+h<24):∀ (subs:List Sub) (keys:List Str) (low:Str) (hi:Option Str),Chain (Tr v h) (some low) hi subs keys->(∀i∈ids_ subs,0<i)->Sd v (kidsFrom d (subs.map (·.id)) keys low) (es_ subs) ((ids_ subs).length+(es_ subs).length)
 | [],keys,low,hi,hc,_=>absurd rfl (chain_ne hc)
 | [s],keys,low,hi,hc,hp=>by
  have hl:=chain_len hc
  obtain rfl:keys= []:=List.eq_nil_of_length_eq_zero (by simpa using hl)
  have ht:=chain_one.1 hc
  have e1:ids_ [s]=s.ids:=by simp[ids_]
  have e2:es_ [s]=s.es:=by simp[es_]
  rw[e1]at hp ⊢
  rw[e2]
  exact⟨s.es, [],s.ids.length+s.es.length,0,by simp,rfl, .inr ⟨h,s,hi,rfl,hp _ (tr_id ht),ht,hp,hd,rfl,rfl⟩,rfl,rfl⟩
 |s::t::subs,keys,low,hi,hc,hp=>by
  cases keys with
  |nil=>have:=chain_len hc;simp at this
  |cons k keys=>
   obtain⟨h1,h2⟩:=chain_cons.1 hc
   rw[ids_cons]at hp
   have hp1:∀i∈s.ids,0<i:=fun i hi=>hp i (List.mem_append_left _ hi)
   have ih:=sd_kids hd (t::subs) keys k hi h2 (fun i hi=>hp i (List.mem_append_right _ hi))
   refine⟨s.es,es_ (t::subs),s.ids.length+s.es.length,_,es_cons _ _, ?_, .inr ⟨h,s,_,rfl,hp1 _ (tr_id h1),h1,hp1,hd,rfl,rfl⟩,ih⟩
   rw[ids_cons,es_cons,List.length_append,List.length_append]
   omega
theorem opn_ok{v:Int->Option Node}{x:It}{l:List Ent}{k:Nat}(h:ItAt v x l k)(h0:x.pg≠0){a:List It}{A:List Ent}{m:Nat}(ha:Sd v a A m):∃a' m',opn v x a=some a'/\Sd v a' (l++A) m'/\m'<k+m:=by
 rcases h with⟨e,_⟩ | ⟨hh,s,hi,e1,e2,ht,hp,hd,rfl,rfl⟩
 ·exact absurd e h0
 ·unfold opn
  rw[if_neg (by omega),e1]
  cases hh with
  |zero=>
   obtain⟨b1,b2,b3,b4,b5,b6⟩:=ht
   rw[b1]
   refine⟨_,s.es.length+m,rfl, ?_,by rw[b2];simp⟩
   have e:its (mkLeaf s.es) x=s.es.map itEnt:=by unfold its;simp[mkLeaf,kidsFrom]
   rw[e]
   exact(sd_ents s.es).app ha
  |succ hh=>
   obtain⟨subs,keys,b1,b2,b3,b4,b5,b6,b7⟩:=ht
   rw[b1]
   rw[b3]at hp
   refine⟨_,((ids_ subs).length+(es_ subs).length)+m,rfl, ?_,by rw[b3,b4,List.length_cons];omega⟩
   have e:its (mkInner (subs.map (·.id)) keys) x=kidsFrom (x.d+1) (subs.map (·.id)) keys x.key:=by unfold its;simp[mkInner]
   rw[e,b4]
   exact(sd_kids (by omega) subs keys x.key hi b7 (fun i hi=>hp i (List.mem_cons_of_mem _ hi))).app ha
theorem tr_det{v:Int->Option Node} :∀ {h1 h2:Nat} {lo1 hi1 lo2 hi2:Option Str} {s1 s2:Sub},Tr v h1 lo1 hi1 s1->Tr v h2 lo2 hi2 s2->s1.id=s2.id->s1.es=s2.es
 |0,0,_,_,_,_,s1,s2,a,b,e=>by
  have h1:=a.1
  rw[e,b.1]at h1
  simp[mkLeaf]at h1
  exact h1.symm
 |0,h+1,_,_,_,_,s1,s2,a,b,e=>by
  obtain⟨subs,keys,b1,_⟩:=b
  have h1:=a.1
  rw[e,b1]at h1
  simp[mkLeaf,mkInner]at h1
 |h+1,0,_,_,_,_,s1,s2,a,b,e=>by
  obtain⟨subs,keys,b1,_⟩:=a
  have h1:=b.1
  rw[<-e,b1]at h1
  simp[mkLeaf,mkInner]at h1
 |h1+1,h2+1,_,_,_,_,s1,s2,a,b,e=>by
  obtain⟨subs,keys,a1,_,_,a4,_,_,a7⟩:=a
  obtain⟨subs',keys',b1,_,_,b4,_,_,b7⟩:=b
  rw[e,b1]at a1
  simp only[mkInner,Option.some.injEq,Node.mk.injEq,true_and]at a1
  obtain⟨hk,_⟩:=a1
  rw[a4,b4]
  have key:∀ (l l':List Sub),(∀t∈l,t∈subs)->(∀t∈l',t∈subs')->l'.map (·.id)=l.map (·.id)->es_ l=es_ l':=by
   intro l
   induction l with
   |nil=>intro l' _ _ hm;simp at hm;rw[hm]
   |cons t l ih=>
    intro l' hl hl' hm
    cases l' with
    |nil=>simp at hm
    |cons t' l'=>
     simp only[List.map_cons,List.cons.injEq]at hm
     obtain⟨x1,x2,x3⟩:=chain_all a7 t (hl t List.mem_cons_self)
     obtain⟨y1,y2,y3⟩:=chain_all b7 t' (hl' t' List.mem_cons_self)
     rw[es_cons,es_cons,tr_det x3 y3 hm.1.symm,ih l' (fun u hu=>hl u (List.mem_cons_of_mem _ hu)) (fun u hu=>hl' u (List.mem_cons_of_mem _ hu)) hm.2]
  exact key subs subs' (fun _ h=>h) (fun _ h=>h) hk
theorem merge_same:∀ (p a b:List Ent),mergeD (p++a) (p++b)=mergeD a b
 | [],a,b=>rfl
 |x::p,a,b=>by
  rw[List.cons_append,List.cons_append,merge_ab,lt_irrefl,if_neg (by simp),if_neg (by simp),merge_same p a b]
  have:dBoth x x= []:=by unfold dBoth;rw[if_pos (by simp[eqs])]
  rw[this];rfl
theorem ItAt.ent{v:Int->Option Node}{x:It}{l:List Ent}{m:Nat}(h:ItAt v x l m)(h0:x.pg=0):l= [x2 x]/\m=1:=by
 rcases h with⟨_,h1,h2⟩ | ⟨hh,s,hi,_,h1,_⟩
 ·exact⟨h1,h2⟩
 ·omega
theorem srt_tail{l L:List Ent}(h:Srt (l++L)):Srt L:=h.sublist (List.sublist_append_right _ _)
def Goes(v:Int->Option Node)(A B:List Ent)(m:Nat)(o:List Dl)(r:Option (Option St)):Prop:=
 ∃a' b' o' A' B' m1 m2,r=some (some (a',b',o++o'))/\Sd v a' A' m1/\Sd v b' B' m2/\Srt A'/\Srt B'/\mergeD A B=o'++mergeD A' B'/\m1+m2<m
theorem step_ok{v:Int->Option Node}{a b:List It}{A B:List Ent}{m1 m2:Nat}{o:List Dl}(ha:Sd v a A m1)(hb:Sd v b B m2)(hA:Srt A)(hB:Srt B):
  (a= []/\b= []/\A= []/\B= []/\stepD v a b o=some none)\/Goes v A B (m1+m2) o (stepD v a b o):=by
 cases a with
 |nil=>
  obtain⟨rfl,rfl⟩:=ha
  cases b with
  |nil=>
   obtain⟨rfl,rfl⟩:=hb
   exact .inl ⟨rfl,rfl,rfl,rfl,rfl⟩
  |cons y b=>
   refine .inr ?_
   obtain⟨l,L',k,m',rfl,rfl,h1,h2⟩:=hb
   rw[step_0y]
   by_cases hy:y.pg=0
   ·rw[if_pos hy]
    obtain⟨rfl,rfl⟩:=h1.ent hy
    exact⟨[],b, [dNew (x2 y)], [],L',0,m',rfl,⟨rfl,rfl⟩,h2,hA,srt_tail hB,by rw[List.singleton_append,merge_b];rfl,by omega⟩
   ·rw[if_neg hy]
    obtain⟨b',m'',e1,e2,e3⟩:=opn_ok h1 hy h2
    rw[e1]
    exact⟨[],b', [], [],l++L',0,m'',by rw[List.append_nil];rfl,⟨rfl,rfl⟩,e2,hA,hB,rfl,by omega⟩
 |cons x a=>
  refine .inr ?_
  cases b with
  |nil=>
   obtain⟨rfl,rfl⟩:=hb
   obtain⟨l,L',k,m',rfl,rfl,h1,h2⟩:=ha
   rw[step_x0]
   by_cases hx:x.pg=0
   ·rw[if_pos hx]
    obtain⟨rfl,rfl⟩:=h1.ent hx
    exact⟨a, [], [dOld (x2 x)],L', [],m',0,rfl,h2,⟨rfl,rfl⟩,srt_tail hA,hB,by rw[List.singleton_append,merge_a];rfl,by omega⟩
   ·rw[if_neg hx]
    obtain⟨a',m'',e1,e2,e3⟩:=opn_ok h1 hx h2
    rw[e1]
    exact⟨a', [], [],l++L', [],m'',0,by rw[List.append_nil];rfl,e2,⟨rfl,rfl⟩,hA,hB,rfl,by omega⟩
  |cons y b=>
   obtain⟨zx,Lx,ex,gx⟩:=ha.head
   obtain⟨zy,Ly,ey,gy⟩:=hb.head
   have ha0:=ha
   have hb0:=hb
   obtain⟨l,L',k,m',rfl,rfl,h1,h2⟩:=ha
   obtain⟨r,R',q,n',rfl,rfl,k1,k2⟩:=hb
   rw[step_xy]
   by_cases c1:x.pg≠0/\x.pg=y.pg
   ·rw[if_pos c1]
    have hlr:l=r:=by
     rcases h1 with⟨e,_⟩ | ⟨hh,s,hi,s1,s2,s3,_,_,s4,_⟩
     ·exact absurd e c1.1
     ·rcases k1 with⟨e,_⟩ | ⟨hh',t,hi',t1,t2,t3,_,_,t4,_⟩
      ·exact absurd (c1.2.trans e) c1.1
      ·rw[s4,t4]
       exact tr_det s3 t3 (by rw[<-s1, <-t1,c1.2])
    subst hlr
    have hk:0<k:=by
     rcases h1 with⟨_,_,rfl⟩ | ⟨hh,s,hi,_,_,ht,_,_,_,rfl⟩
     ·exact Nat.one_pos
     ·have:=List.length_pos_of_mem (tr_id ht);omega
    exact⟨a,b, [],L',R',m',n',by rw[List.append_nil],h2,k2,srt_tail hA,srt_tail hB,merge_same _ _ _,by omega⟩
   ·rw[if_neg c1]
    by_cases c2:x.pg=0/\lt x.key y.key=true
    ·rw[if_pos c2]
     obtain⟨rfl,rfl⟩:=h1.ent c2.1
     refine⟨a,y::b, [dOld (x2 x)],L',r++R',m',q+n',rfl,h2,hb0,srt_tail hA,hB, ?_,by omega⟩
     rw[ey,List.singleton_append,merge_ab,if_pos (show lt (x2 x).1 zy.1=true from lt_of_lt_ge c2.2 gy)]
     rfl
    ·rw[if_neg c2]
     by_cases c3:y.pg=0/\lt y.key x.key=true
     ·rw[if_pos c3]
      obtain⟨rfl,rfl⟩:=k1.ent c3.1
      refine⟨x::a,b, [dNew (x2 y)],l++L',R',k+m',n',rfl,ha0,k2,hA,srt_tail hB, ?_,by omega⟩
      have hlt:lt (x2 y).1 zx.1=true:=lt_of_lt_ge c3.2 gx
      rw[ex,List.singleton_append,merge_ab,if_neg (by rw[lt_not hlt];simp),if_pos hlt]
      rfl
     ·rw[if_neg c3]
      by_cases c4:x.pg≠0/\(y.pg=0\/x.d<=y.d)
      ·rw[if_pos c4]
       obtain⟨a',m'',e1,e2,e3⟩:=opn_ok h1 c4.1 h2
       rw[e1]
       simp only
       by_cases c5:y.pg≠0/\x.d=y.d
       ·rw[if_pos c5]
        obtain⟨b',n'',f1,f2,f3⟩:=opn_ok k1 c5.1 k2
        rw[f1]
        exact⟨a',b', [],l++L',r++R',m'',n'',by rw[List.append_nil];rfl,e2,f2,hA,hB,rfl,by omega⟩
       ·rw[if_neg c5]
        exact⟨a',y::b, [],l++L',r++R',m'',q+n',by rw[List.append_nil],e2,hb0,hA,hB,rfl,by omega⟩
      ·rw[if_neg c4]
       by_cases c6:y.pg≠0
       ·rw[if_pos c6]
        obtain⟨b',n'',f1,f2,f3⟩:=opn_ok k1 c6 k2
        rw[f1]
        exact⟨x::a,b', [],l++L',r++R',k+m',n'',by rw[List.append_nil];rfl,ha0,f2,hA,hB,rfl,by omega⟩
       ·rw[if_neg c6]
        have hy:y.pg=0:=by simpa using c6
        have hx:x.pg=0:=by
         by_cases h:x.pg=0
         ·exact h
         ·exact absurd ⟨h, .inl hy⟩ c4
        obtain⟨rfl,rfl⟩:=h1.ent hx
        obtain⟨rfl,rfl⟩:=k1.ent hy
        have l1:lt x.key y.key=false:=by simpa[hx]using c2
        have l2:lt y.key x.key=false:=by simpa[hy]using c3
        refine⟨a,b,dBoth (x2 x) (x2 y),L',R',m',n',rfl,h2,k2,srt_tail hA,srt_tail hB, ?_,by omega⟩
        rw[List.singleton_append,List.singleton_append,merge_ab,if_neg (by rw[show lt (x2 x).1 (x2 y).1=false from l1];simp),if_neg (by rw[show lt (x2 y).1 (x2 x).1=false from l2];simp)]
def rootIt(root:Int):List It:=if root=0 then []else [⟨root,0,nil,nil⟩]
theorem sd_root{v:Int->Option Node}{root:Int}{es:List Ent}{tok:Nat}{ids:List Int}(h:VerAt v root es tok ids)(hp:∀i∈ids,0<i)(ht:tok<=1000000):Sd v (rootIt root) es (ids.length+es.length):=by
 unfold rootIt
 rcases h with⟨rfl,rfl,rfl⟩ | ⟨hh,s,rfl,rfl,rfl,h1,h2,_,h3⟩
 ·rw[if_pos rfl];exact⟨rfl,rfl⟩
 ·have h8:=low_of h3 (by omega)
  have hz:=hp _ (tr_id h2)
  rw[if_neg (by omega)]
  refine⟨s.es, [],s.ids.length+s.es.length,0,by simp,rfl, .inr ⟨hh,s,none,rfl,hz, ?_,hp,by show 0+hh<24;omega,rfl,rfl⟩,rfl,rfl⟩
  exact(tr_good v hh).mono (fun k _=>gtLo_some.2 (by unfold lt;rw[show nil.toList= []from by rw[Go.Lib.toList_data];rfl];cases k.toList<;>rfl)) (HiLe.refl _) h2
theorem step_less{v v':Int->Option Node}(hv:∀i,v' i=none\/v' i=v i)(a b:List It)(o:List Dl):stepD v' a b o=none\/stepD v' a b o=stepD v a b o:=by
 have ho:∀x c,opn v' x c=none\/opn v' x c=opn v x c:=fun x c=>by
  unfold opn
  split
  ·exact .inl rfl
  ·rcases hv x.pg with h | h
   ·rw[h];exact .inl rfl
   ·rw[h];exact .inr rfl
 cases a with
 |nil=>
  cases b with
  |nil=>exact .inr rfl
  |cons y b=>
   rw[step_0y,step_0y]
   split
   ·exact .inr rfl
   ·rcases ho y b with h | h
    ·rw[h];exact .inl rfl
    ·rw[h];exact .inr rfl
 |cons x a=>
  cases b with
  |nil=>
   rw[step_x0,step_x0]
   split
   ·exact .inr rfl
   ·rcases ho x a with h | h
    ·rw[h];exact .inl rfl
    ·rw[h];exact .inr rfl
  |cons y b=>
   rw[step_xy,step_xy]
   split
   ·exact .inr rfl
   ·split
    ·exact .inr rfl
    ·split
     ·exact .inr rfl
     ·split
      ·rcases ho x a with h | h
       ·rw[h];exact .inl rfl
       ·rw[h]
        cases opn v x a with
        |none=>exact .inr rfl
        |some a'=>
         simp only
         split
         ·rcases ho y b with h | h
          ·rw[h];exact .inl rfl
          ·rw[h];exact .inr rfl
         ·exact .inr rfl
      ·split
       ·rcases ho y b with h | h
        ·rw[h];exact .inl rfl
        ·rw[h];exact .inr rfl
       ·exact .inr rfl
end Td
namespace Go.Proofs.YtjoiajmbfbjnnaaGreatDoor
open Go.RowKit
abbrev It:=Td.It
def itE:Enc It:=⟨fun x=> [.int .i64 x.pg, .int .i64 (x.d:Nat), .string x.key, .string x.val],4,fun _=>rfl,by decide,fun x u hu=>by simp at hu;rcases hu with rfl | rfl | rfl | rfl<;>rfl⟩
def SideT(w:World)(base:Nat)(v:Value)(a:List It):Prop:=LO itE 255 w base v a.reverse
theorem SideT.nil{w:World}{base:Nat}{v:Value}(h:SideT w base v []):∃A c,v= .slice A 0 c:=LO.form h
theorem SideT.cons{w:World}{base:Nat}{v:Value}{x:It}{a:List It}(h:SideT w base v (x::a)):∃g c,v= .slice (some ⟨g,0,none⟩) (a.length+1) c/\base<=g/\g<w.heap.size/\a.length+1<=c/\
  (w.cell? ⟨g,a.length*4,none⟩=some (.int .i64 x.pg)/\w.cell? ⟨g,a.length*4+1,none⟩=some (.int .i64 (x.d:Nat))/\w.cell? ⟨g,a.length*4+2,none⟩=some (.string x.key)/\w.cell? ⟨g,a.length*4+3,none⟩=some (.string x.val))/\
  SideT w base (.slice (some ⟨g,0,none⟩) a.length c) a:=by
 have h':LO itE 255 w base v (a.reverse++ [x]):=by have:=h;unfold SideT at this;rwa [List.reverse_cons]at this
 obtain⟨g,c,hv,h1,h2,h3,h4,h5⟩:=LO.last h'
 rw[List.length_reverse]at hv h3 h4 h5
 exact⟨g,c,hv,h1,h2,h3,⟨h4 0 (by decide),h4 1 (by decide),h4 2 (by decide),h4 3 (by decide)⟩,h5⟩
theorem dtop_nil(g o:Nat)(A:Option Addr)(c:Nat)(w:World)(hg:g<w.heap.size)(hc:w.cell? ⟨g,o+1,none⟩=some (.slice A 0 c)):
  Calls Tryz.prog 167 #[.pointer (some ⟨g,o,none⟩)] w fun e w'=>e= .returned (.tuple #[.agg #[.int .i64 0, .int .i64 0, .string ⟨#[]⟩, .string ⟨#[]⟩], .bool false])/\Below w.heap.size w w':=by
 go_enter Tryz.func167,Tryz.ntmps167
 go_wp2
 refine bodyPost_ret (v:= .tuple #[.agg #[.int .i64 0, .int .i64 0, .string ⟨#[]⟩, .string ⟨#[]⟩], .bool false]) (by simp[results,Tryz.results167,go_sem]) rfl ⟨rfl, ?_⟩
 exact(Below.refl _ _).alloc (Nat.le_refl _) _
theorem dtop_cons(g o gi:Nat)(n c:Nat)(x:It)(w:World)(hg:g<w.heap.size)(hgi:gi<w.heap.size)(hn:n<=1000000)(hc:w.cell? ⟨g,o+1,none⟩=some (.slice (some ⟨gi,0,none⟩) (n+1) c))
  (h0:w.cell? ⟨gi,n*4,none⟩=some (.int .i64 x.pg)) (h1:w.cell? ⟨gi,n*4+1,none⟩=some (.int .i64 (x.d:Nat))) (h2:w.cell? ⟨gi,n*4+2,none⟩=some (.string x.key)) (h3:w.cell? ⟨gi,n*4+3,none⟩=some (.string x.val)):
  Calls Tryz.prog 167 #[.pointer (some ⟨g,o,none⟩)] w fun e w'=>e= .returned (.tuple #[.agg #[.int .i64 x.pg, .int .i64 (x.d:Nat), .string x.key, .string x.val], .bool true])/\Below w.heap.size w w':=by
 go_enter Tryz.func167,Tryz.ntmps167
 go_wp2_with fail
 go_region
 go_wp2
 refine bodyPost_ret (v:= .tuple #[.agg #[.int .i64 x.pg, .int .i64 (x.d:Nat), .string x.key, .string x.val], .bool true]) (by simp[results,Tryz.results167,go_sem]) rfl ⟨rfl, ?_⟩
 exact((Below.refl _ _).alloc (Nat.le_refl _) _).drew
structure PairAt(w:World)(g base:Nat)(a b:List Ent)(out:List Dl):Prop where
 blk:∃va vb vo,Blk w g 180 #[.pointer none,va, .pointer none,vb,vo]/\SideV w base va a/\SideV w base vb b/\LO dlE 92 w base vo out
section
variable {w w':World}{g base:Nat}{a b:List Ent}{out:List Dl}
theorem PairAt.below(h:PairAt w g base a b out)(hb:Below w.heap.size w w'):PairAt w' g base a b out:=by
 obtain⟨va,vb,vo,h1,h2,h3,h4⟩:=h
 exact⟨va,vb,vo,h1.below hb h1.lt,h2.below hb,h3.below hb,h4.below hb⟩
theorem PairAt.lt(h:PairAt w g base a b out):g<w.heap.size:=by obtain⟨_,_,_,h1,_⟩:=h;exact h1.lt
theorem PairAt.setA{x:Ent}{v:Value}{a':List Ent}(h:PairAt w g base (x::a) b out)(hv:SideV w base v a'):PairAt (w.setCell ⟨g,1,none⟩ v) g base a' b out:=by
 obtain⟨va,vb,vo,h1,h2,h3,h4⟩:=h
 exact⟨v,vb,vo,h1.set_ 1 v,LO.set_ hv h1 (by decide),LO.set_ h3 h1 (by decide),LO.set_ h4 h1 (by decide)⟩
theorem PairAt.setB{x:Ent}{v:Value}{b':List Ent}(h:PairAt w g base a (x::b) out)(hv:SideV w base v b'):PairAt (w.setCell ⟨g,3,none⟩ v) g base a b' out:=by
 obtain⟨va,vb,vo,h1,h2,h3,h4⟩:=h
 exact⟨va,v,vo,h1.set_ 3 v,LO.set_ h2 h1 (by decide),LO.set_ hv h1 (by decide),LO.set_ h4 h1 (by decide)⟩
theorem PairAt.told{v v':Value}{n:Nat}{d:Dl}{cs:Array Value}(h:PairAt w g base a b out)(hvo:w.cell? ⟨g,4,none⟩=some v)(hn:out.length=n)(hcs:cs.toList=dlE.enc d)(hown:w'.ownsRow base 92 5 v' (n+1) (dlE.cells out++cs.toList))(hg:w.grownBy w' v.ownBlock):
  PairAt (w'.setCell ⟨g,4,none⟩ v') g base a b (out++ [d])/\w'.cell? ⟨g,4,none⟩=some v/\w'.frozen? ⟨g,4,none⟩=false/\g<w'.heap.size:=by
 obtain⟨va,vb,vo,h1,h2,h3,h4⟩:=h
 have e:vo=v:=by have:=h1.cell 4;rw[hvo]at this;simpa using this.symm
 subst e
 have hne:vo.ownBlock≠some g:=own_blk_ne h4 h1 (by decide)
 have h1':Blk w' g 180 #[.pointer none,va, .pointer none,vb,vo]:=h1.grown hg (fun e=>hne e.symm)
 have keepS:∀ {v0:Value} {l:List Ent},SideV w base v0 l->SideV w' base v0 l:=fun hs=>by
  refine LO.keep hs hg fun r e=> ?_
  rcases h4.2 with⟨e0,_⟩ | ⟨g',cap,cur,e0,_,hh,_⟩
  ·rw[e0]at e;cases e
  ·rw[e0]at e;injection e with e;subst e
   exact⟨_,hh,fun cs e=>by injection e with _ e;cases e⟩
 have hd:LO dlE 92 w' base v' (out++ [d]):=LO.snoc hn rfl hcs hown
 refine⟨⟨va,vb,v',h1'.set_ 4 v',LO.set_ (keepS h2) h1' (by decide),LO.set_ (keepS h3) h1' (by decide),LO.set_ hd h1' (by decide)⟩,h1'.cell 4,h1'.frozen 4,h1'.lt⟩
end
structure At(g:Nat)(w w':World):Prop where
 os:w'.os=w.os
 tape:w'.tape=w.tape
 output:w'.output=w.output
 size:w'.heap.size=w.heap.size
 block:∀k,k≠g->w'.heap[k]? =w.heap[k]?
theorem At.cell{g:Nat}{w w':World}(h:At g w w'){p:Addr}(hp:p.block≠g):w'.cell? p=w.cell? p:=World.cell?_of_block (h.block _ hp)
theorem At.below{g B:Nat}{w w':World}(h:At g w w')(hB:B<=g):Below B w w':=⟨h.os,h.tape,h.output,by rw[h.size];exact Nat.le_refl _,fun k hk=>h.block k (by omega)⟩
theorem At.set_(g i:Nat)(w:World)(v:Value):At g w (w.setCell ⟨g,i,none⟩ v).drew:=⟨rfl,rfl,rfl,by simp[World.setCell],fun k hk=>Below.heap_setCell _ _ _ _ (by simpa using hk)⟩
section
variable {w:World}{g base:Nat}{a b:List Ent}{x y:Ent}{out:List Dl}
theorem top_a(h:PairAt w g base (x::a) b out)(ha:a.length<=1000000):
  Calls Tryz.prog 167 #[.pointer (some ⟨g,0,none⟩)] w fun e w'=>e= .returned (.tuple #[.agg #[.int .i64 0, .int .i64 0, .string x.1, .string x.2], .bool true])/\Below w.heap.size w w':=by
 obtain⟨va,vb,vo,h1,h2,h3,h4⟩:=h.blk
 obtain⟨gi,c,rfl,hgi1,hgi2,hcl,⟨i0,i1,i2,i3⟩,hs⟩:=h2.cons
 exact top_cons g 0 gi a.length c x w h1.lt hgi2 ha (h1.cell 1) i0 i1 i2 i3
theorem top_b(h:PairAt w g base a (x::b) out)(hb:b.length<=1000000):
  Calls Tryz.prog 167 #[.pointer (some ⟨g,2,none⟩)] w fun e w'=>e= .returned (.tuple #[.agg #[.int .i64 0, .int .i64 0, .string x.1, .string x.2], .bool true])/\Below w.heap.size w w':=by
 obtain⟨va,vb,vo,h1,h2,h3,h4⟩:=h.blk
 obtain⟨gi,c,rfl,hgi1,hgi2,hcl,⟨i0,i1,i2,i3⟩,hs⟩:=h3.cons
 exact top_cons g 2 gi b.length c x w h1.lt hgi2 hb (h1.cell 3) i0 i1 i2 i3
theorem top_a0(h:PairAt w g base [] b out):
  Calls Tryz.prog 167 #[.pointer (some ⟨g,0,none⟩)] w fun e w'=>e= .returned (.tuple #[.agg #[.int .i64 0, .int .i64 0, .string ⟨#[]⟩, .string ⟨#[]⟩], .bool false])/\Below w.heap.size w w':=by
 obtain⟨va,vb,vo,h1,h2,h3,h4⟩:=h.blk
 obtain⟨A,c,rfl⟩:=h2.nil
 exact top_nil g 0 A c w h1.lt (h1.cell 1)
theorem top_b0(h:PairAt w g base a [] out):
  Calls Tryz.prog 167 #[.pointer (some ⟨g,2,none⟩)] w fun e w'=>e= .returned (.tuple #[.agg #[.int .i64 0, .int .i64 0, .string ⟨#[]⟩, .string ⟨#[]⟩], .bool false])/\Below w.heap.size w w':=by
 obtain⟨va,vb,vo,h1,h2,h3,h4⟩:=h.blk
 obtain⟨A,c,rfl⟩:=h3.nil
 exact top_nil g 2 A c w h1.lt (h1.cell 3)
theorem pop_a(h:PairAt w g base (x::a) b out)(ha:a.length<=1000000):
  Calls Tryz.prog 168 #[.pointer (some ⟨g,0,none⟩)] w fun e w'=>e= .returned (.tuple #[])/\PairAt w' g base a b out/\At g w w':=by
 obtain⟨va,vb,vo,h1,h2,h3,h4⟩:=h.blk
 obtain⟨gi,c,rfl,hgi1,hgi2,hcl,_,hs⟩:=h2.cons
 refine(pop_any g 0 gi a.length c w ha hcl (h1.cell 1) (h1.frozen 1)).mono ?_
 rintro e w' ⟨rfl,rfl⟩
 exact⟨rfl,(h.setA hs).below (Below.refl _ _).drew,At.set_ g 1 w _⟩
theorem pop_b(h:PairAt w g base a (x::b) out)(hb:b.length<=1000000):
  Calls Tryz.prog 168 #[.pointer (some ⟨g,2,none⟩)] w fun e w'=>e= .returned (.tuple #[])/\PairAt w' g base a b out/\At g w w':=by
 obtain⟨va,vb,vo,h1,h2,h3,h4⟩:=h.blk
 obtain⟨gi,c,rfl,hgi1,hgi2,hcl,_,hs⟩:=h3.cons
 refine(pop_any g 2 gi b.length c w hb hcl (h1.cell 3) (h1.frozen 3)).mono ?_
 rintro e w' ⟨rfl,rfl⟩
 exact⟨rfl,(h.setB hs).below (Below.refl _ _).drew,At.set_ g 3 w _⟩
end
theorem only_a(g base:Nat)(x:Ent)(a b:List Ent)(out:List Dl)(w:World)(h:PairAt w g base (x::a) b out)(hg:base<=g)(hB:base<=w.heap.size)(ha:a.length<=100000)(ho:out.length<=100000):
  Calls Tryz.prog 169 #[.pointer (some ⟨g,0,none⟩), .pointer (some ⟨g,0,none⟩), .bool true] w fun e w'=>e= .returned (.tuple #[])/\PairAt w' g base a b (out++ [En.dOld x])/\Below base w w':=by
 have hT:=hid_calls (top_a h (by omega))
 have hPo:=fun W h=>hid_calls (pop_a (w:=W) (g:=g) (base:=base) (x:=x) (a:=a) (b:=b) (out:=out) h (by omega))
 go_enter Tryz.func169,Tryz.ntmps169
 go_wp2_with fail
 refine hT.out.mono ?_
 rintro e w1 ⟨rfl,b1⟩
 have hP1:=(h.below b1).below ((Below.refl _ w1).alloc (Nat.le_refl _) (.cells #[.int .i64 0, .int .i64 0, .string x.1, .string x.2] 255))
 have hlt1:=(h.below b1).lt
 have hb1:Below base w (w1.alloc (.cells #[.int .i64 0, .int .i64 0, .string x.1, .string x.2] 255)):=(b1.mono hB).alloc (by have:=b1.size;omega) _
 have hbx:=Blk.new w1 255 #[.int .i64 0, .int .i64 0, .string x.1, .string x.2]
 go_wp2_with fail
 refine(hPo _ hP1).out.mono ?_
 rintro e w2 ⟨rfl,hP2,at2⟩
 have hq:w1.heap.size≠g:=by omega
 have hb2:=hb1.trans (at2.below hg)
 have g2:=(at2.cell (p:=⟨w1.heap.size,2,none⟩) hq).trans (hbx.cell 2)
 have g3:=(at2.cell (p:=⟨w1.heap.size,3,none⟩) hq).trans (hbx.cell 3)
 have hz:w1.heap.size<w2.heap.size:=by rw[at2.size];simp
 have hz1:base<=w1.heap.size:=by have:=b1.size;omega
 clear hT hPo hP1 h hb1 hbx b1 hlt1 at2
 generalize w1.heap.size=q at*
 have hltg:=hP2.lt
 obtain⟨va,vb,vo,h1,h2,h3,h4⟩:=hP2.blk
 obtain⟨Ao,co,rfl⟩:=h4.form
 have hc4:=h1.cell 4
 clear h1 h2 h3
 go_wp2_with fail
 have hbD:Below w2.heap.size w2 (w2.alloc (.cells #[.string x.1, .string x.2, .string ⟨#[]⟩, .bool true, .bool false] 92)).drew:=((Below.refl _ w2).alloc (Nat.le_refl _) _).drew
 have hP3:=hP2.below hbD
 have hown3:=(h4.below hbD).raw rfl (s:=5) rfl
 have hb3:base<=(w2.alloc (.cells #[.string x.1, .string x.2, .string ⟨#[]⟩, .bool true, .bool false] 92)).drew.heap.size:=by have:=hb2.size;simp;omega
 have hc3:(w2.alloc (.cells #[.string x.1, .string x.2, .string ⟨#[]⟩, .bool true, .bool false] 92)).drew.cell? ⟨g,4,none⟩=some (.slice Ao out.length co):=(hbD.cell (p:=⟨g,4,none⟩) hltg).trans hc4
 have hb4:=hb2.trans (hbD.mono (by have:=hb2.size;omega))
 go_region_law (first | (refine step_app1 rfl (.tmp 31) (.tmp 33) 78 rfl eiDl Tryz.underlying78 rfl (by decide) rfl hown3 rfl (by simp) rfl (by simp[Value.oneCell']) (by unfold maxLen;omega) (by omega) hb3 ?_;intro v' w6 hown' hgrow hbel;obtain⟨A6,c6,rfl⟩:=own_form hown';obtain⟨hP4,hc6,hf6,hl6⟩:=hP3.told (d:=En.dOld x) hc3 rfl rfl hown' hgrow))
 all_goals
  go_end0
  exact⟨rfl,hP4,(hb4.trans hbel).setCell (p:=⟨g,4,none⟩) hg _⟩
theorem only_b(g base:Nat)(x:Ent)(a b:List Ent)(out:List Dl)(w:World)(h:PairAt w g base a (x::b) out)(hg:base<=g)(hB:base<=w.heap.size)(hb0:b.length<=100000)(ho:out.length<=100000):
  Calls Tryz.prog 169 #[.pointer (some ⟨g,0,none⟩), .pointer (some ⟨g,2,none⟩), .bool false] w fun e w'=>e= .returned (.tuple #[])/\PairAt w' g base a b (out++ [En.dNew x])/\Below base w w':=by
 have hT:=hid_calls (top_b h (by omega))
 have hPo:=fun W h=>hid_calls (pop_b (w:=W) (g:=g) (base:=base) (x:=x) (a:=a) (b:=b) (out:=out) h (by omega))
 go_enter Tryz.func169,Tryz.ntmps169
 go_wp2_with fail
 refine hT.out.mono ?_
 rintro e w1 ⟨rfl,b1⟩
 have hP1:=(h.below b1).below ((Below.refl _ w1).alloc (Nat.le_refl _) (.cells #[.int .i64 0, .int .i64 0, .string x.1, .string x.2] 255))
 have hlt1:=(h.below b1).lt
 have hb1:Below base w (w1.alloc (.cells #[.int .i64 0, .int .i64 0, .string x.1, .string x.2] 255)):=(b1.mono hB).alloc (by have:=b1.size;omega) _
 have hbx:=Blk.new w1 255 #[.int .i64 0, .int .i64 0, .string x.1, .string x.2]
 go_wp2_with fail
 refine(hPo _ hP1).out.mono ?_
 rintro e w2 ⟨rfl,hP2,at2⟩
 have hq:w1.heap.size≠g:=by omega
 have hb2:=hb1.trans (at2.below hg)
 have g2:=(at2.cell (p:=⟨w1.heap.size,2,none⟩) hq).trans (hbx.cell 2)
 have g3:=(at2.cell (p:=⟨w1.heap.size,3,none⟩) hq).trans (hbx.cell 3)
 have hz:w1.heap.size<w2.heap.size:=by rw[at2.size];simp
 have hz1:base<=w1.heap.size:=by have:=b1.size;omega
 clear hT hPo hP1 h hb1 hbx b1 hlt1 at2
 generalize w1.heap.size=q at*
 have hltg:=hP2.lt
 obtain⟨va,vb,vo,h1,h2,h3,h4⟩:=hP2.blk
 obtain⟨Ao,co,rfl⟩:=h4.form
 have hc4:=h1.cell 4
 clear h1 h2 h3
 go_wp2_with fail
 have hbD:Below w2.heap.size w2 (w2.alloc (.cells #[.string x.1, .string ⟨#[]⟩, .string x.2, .bool false, .bool true] 92)).drew:=((Below.refl _ w2).alloc (Nat.le_refl _) _).drew
 have hP3:=hP2.below hbD
 have hown3:=(h4.below hbD).raw rfl (s:=5) rfl
 have hb3:base<=(w2.alloc (.cells #[.string x.1, .string ⟨#[]⟩, .string x.2, .bool false, .bool true] 92)).drew.heap.size:=by have:=hb2.size;simp;omega
 have hc3:(w2.alloc (.cells #[.string x.1, .string ⟨#[]⟩, .string x.2, .bool false, .bool true] 92)).drew.cell? ⟨g,4,none⟩=some (.slice Ao out.length co):=(hbD.cell (p:=⟨g,4,none⟩) hltg).trans hc4
 have hb4:=hb2.trans (hbD.mono (by have:=hb2.size;omega))
 go_region_law (first | (refine step_app1 rfl (.tmp 31) (.tmp 33) 78 rfl eiDl Tryz.underlying78 rfl (by decide) rfl hown3 rfl (by simp) rfl (by simp[Value.oneCell']) (by unfold maxLen;omega) (by omega) hb3 ?_;intro v' w6 hown' hgrow hbel;obtain⟨A6,c6,rfl⟩:=own_form hown';obtain⟨hP4,hc6,hf6,hl6⟩:=hP3.told (d:=En.dNew x) hc3 rfl rfl hown' hgrow))
 all_goals
  go_end0
  exact⟨rfl,hP4,(hb4.trans hbel).setCell (p:=⟨g,4,none⟩) hg _⟩
theorem dBoth_eq(x y:Ent):En.dBoth x y=if En.eqs x.2 y.2 then []else [⟨x.1,x.2,y.2,true,true⟩]:=rfl
theorem both_any(g base:Nat)(x y:Ent)(a b:List Ent)(out:List Dl)(w:World)(h:PairAt w g base (x::a) (y::b) out)(hg:base<=g)(hB:base<=w.heap.size)(ha:a.length<=100000)(hb0:b.length<=100000)(ho:out.length<=100000):
  Calls Tryz.prog 171 #[.pointer (some ⟨g,0,none⟩), .agg #[.int .i64 0, .int .i64 0, .string x.1, .string x.2], .agg #[.int .i64 0, .int .i64 0, .string y.1, .string y.2]] w fun e w'=>e= .returned (.tuple #[])/\PairAt w' g base a b (out++En.dBoth x y)/\Below base w w':=by
 have hPa:=fun W h=>hid_calls (pop_a (w:=W) (g:=g) (base:=base) (x:=x) (a:=a) (b:=y::b) (out:=out) h (by omega))
 have hPb:=fun W h=>hid_calls (pop_b (w:=W) (g:=g) (base:=base) (x:=y) (a:=a) (b:=b) (out:=out) h (by omega))
 have hbX:Below w.heap.size w ((w.alloc (.cells #[.int .i64 0, .int .i64 0, .string x.1, .string x.2] 255)).alloc (.cells #[.int .i64 0, .int .i64 0, .string y.1, .string y.2] 255)):=((Below.refl _ w).alloc (Nat.le_refl _) _).alloc (by simp) _
 have hP0:=h.below hbX
 have hBx:=(Blk.new w 255 #[.int .i64 0, .int .i64 0, .string x.1, .string x.2]).alloc (.cells #[.int .i64 0, .int .i64 0, .string y.1, .string y.2] 255)
 have hBy:=Blk.new (w.alloc (.cells #[.int .i64 0, .int .i64 0, .string x.1, .string x.2] 255)) 255 #[.int .i64 0, .int .i64 0, .string y.1, .string y.2]
 rw[World.size_alloc]at hBy
 have hq:w.heap.size≠g:=by have:=h.lt;omega
 have hq2:w.heap.size+1≠g:=by have:=h.lt;omega
 have hb1:=hbX.mono hB
 clear h hbX
 go_enter Tryz.func171,Tryz.ntmps171
 go_wp2_with fail
 generalize hw:((w.alloc (.cells #[.int .i64 0, .int .i64 0, .string x.1, .string x.2] 255)).alloc (.cells #[.int .i64 0, .int .i64 0, .string y.1, .string y.2] 255))=w1 at*
 generalize hqx:w.heap.size=q at*
 clear hw
 refine(hPa _ hP0).out.mono ?_
 rintro e w2 ⟨rfl,hP2,at2⟩
 have gx2:=(at2.cell (p:=⟨q,2,none⟩) hq).trans (hBx.cell 2)
 have gx3:=(at2.cell (p:=⟨q,3,none⟩) hq).trans (hBx.cell 3)
 have gy3:=(at2.cell (p:=⟨q+1,3,none⟩) hq2).trans (hBy.cell 3)
 have hb2:=hb1.trans (at2.below hg)
 have hz2:q+1<w2.heap.size:=by rw[at2.size];exact hBy.lt
 clear hP0 at2 hBx hBy hb1 hPa
 go_wp2_with fail
 refine(hPb _ hP2).out.mono ?_
 rintro e w3 ⟨rfl,hP3,at3⟩
 have g2:=(at3.cell (p:=⟨q,2,none⟩) hq).trans gx2
 have g3:=(at3.cell (p:=⟨q,3,none⟩) hq).trans gx3
 have gy:=(at3.cell (p:=⟨q+1,3,none⟩) hq2).trans gy3
 have hb3:=hb2.trans (at3.below hg)
 have hz3:q+1<w3.heap.size:=by rw[at3.size];exact hz2
 have hz4:q<w3.heap.size:=by omega
 clear hP2 at3 hb2 gx2 gx3 gy3 hz2 hPb
 have hltg:=hP3.lt
 obtain⟨va,vb,vo,h1,h2,h3,h4⟩:=hP3.blk
 obtain⟨Ao,co,rfl⟩:=h4.form
 have hc4:=h1.cell 4
 clear h1 h2 h3
 cases heq:En.eqs x.2 y.2 with
 |true=>
  have hEq:(x.2.toList==y.2.toList)=true:=heq
  have hne:(!(x.2.toList==y.2.toList))=false:=by rw[hEq];rfl
  have hfin:out++En.dBoth x y=out:=by rw[dBoth_eq,heq];simp
  have HF:=Lib.hid hfin
  clear heq hfin
  go_wp2_with fail
  go_end0
  exact⟨rfl,by rw[HF.out];exact hP3,hb3⟩
 |false=>
  have hEq:(x.2.toList==y.2.toList)=false:=heq
  have hne:(!(x.2.toList==y.2.toList))=true:=by rw[hEq];rfl
  have hfin:out++En.dBoth x y=out++ [⟨x.1,x.2,y.2,true,true⟩]:=by rw[dBoth_eq,heq];rfl
  have HF:=Lib.hid hfin
  clear heq hfin
  go_wp2_with fail
  have hbD:Below w3.heap.size w3 w3.drew:=(Below.refl _ w3).drew
  have hP4:=hP3.below hbD
  have hown3:=(h4.below hbD).raw rfl (s:=5) rfl
  have hb4:base<=w3.drew.heap.size:=by have:=hb3.size;simp;omega
  have hc3:w3.drew.cell? ⟨g,4,none⟩=some (.slice Ao out.length co):=hc4
  have hb5:=hb3.trans (hbD.mono (by have:=hb3.size;omega))
  go_region_law (first | (refine step_app1 rfl (.tmp 23) (.tmp 31) 78 rfl eiDl Tryz.underlying78 rfl (by decide) rfl hown3 rfl (by simp) rfl (by simp[Value.oneCell']) (by unfold maxLen;omega) (by omega) hb4 ?_;intro v' w6 hown' hgrow hbel;obtain⟨A6,c6,rfl⟩:=own_form hown';obtain⟨hP5,hc6,hf6,hl6⟩:=hP4.told (d:=⟨x.1,x.2,y.2,true,true⟩) hc3 rfl rfl hown' hgrow))
  all_goals
   go_end0
   exact⟨rfl,by rw[HF.out];exact hP5,(hb5.trans hbel).setCell (p:=⟨g,4,none⟩) hg _⟩
def TyS(base:Nat)(w:World)(k:Nat):Prop:=base<=k/\∃ty cs,Blk w k ty cs/\(ty=180\/ty=255\/ty=92)
def FrT(base:Nat)(w w':World):Prop:=Fr (TyS base w) w w'
section
variable {base g:Nat}{w w' w'':World}
theorem FrT.of_below(h:Below w.heap.size w w'):FrT base w w':=Fr.of_below h
theorem FrT.trans(h:FrT base w w')(h':FrT base w' w''):FrT base w w'':=
 ⟨h'.os.trans h.os,h'.tape.trans h.tape,h'.output.trans h.output,Nat.le_trans h.size h'.size,fun k hk a=>by
  have e:=h.block k hk a
  rw[h'.block k (Nat.lt_of_lt_of_le hk h.size) (fun⟨b1,ty,cs,b2,b3⟩=>a ⟨b1,ty,cs,e.symm.trans b2,b3⟩),e]⟩
theorem FrT.set_{ty:TypeId}{cs:Array Value}(hB:Blk w g ty cs)(hg:base<=g)(ht:ty=180\/ty=255\/ty=92)(i:Nat)(v:Value):FrT base w (w.setCell ⟨g,i,none⟩ v):=Fr.set_ ⟨hg,ty,cs,hB,ht⟩ v
theorem FrT.at_{ty:TypeId}{cs:Array Value}(h:At g w w')(hB:Blk w g ty cs)(hg:base<=g)(ht:ty=180\/ty=255\/ty=92):FrT base w w':=⟨h.os,h.tape,h.output,Nat.le_of_eq h.size.symm,fun k _ a=>h.block k (fun e=>a (by subst e;exact⟨hg,ty,cs,hB,ht⟩))⟩
theorem FrT.grown{α:Type}{E:Enc α}{ty:TypeId}{v:Value}{l:List α}(hl:LO E ty w base v l)(h:w.grownBy w' v.ownBlock)(ht:ty=180\/ty=255\/ty=92):FrT base w w':=(Fr.of_grown h).more fun k hk=>by
 rcases hl.2 with⟨e,_⟩ | ⟨g',cap,cur,e,hb,hh,_⟩
 ·rw[e]at hk;cases hk
 ·rw[e]at hk;injection hk with hk;subst hk;exact⟨hb,ty,_,hh,ht⟩
end
structure PairT(tv:Value)(w:World)(g base:Nat)(a b:List It)(out:List Dl):Prop where
 blk:∃va vb vo,(∀r,va.ownBlock=some r->vb.ownBlock≠some r)/\Blk w g 180 #[tv,va,tv,vb,vo]/\SideT w base va a/\SideT w base vb b/\LO dlE 92 w base vo out
section
variable {tv:Value}{w w':World}{g base:Nat}{a b:List It}{out:List Dl}
theorem PairT.below(h:PairT tv w g base a b out)(hb:Below w.heap.size w w'):PairT tv w' g base a b out:=by
 obtain⟨va,vb,vo,h0,h1,h2,h3,h4⟩:=h
 exact⟨va,vb,vo,h0,h1.below hb h1.lt,h2.below hb,h3.below hb,h4.below hb⟩
theorem PairT.lt(h:PairT tv w g base a b out):g<w.heap.size:=by obtain⟨_,_,_,_,h1,_⟩:=h;exact h1.lt
theorem PairT.setA{x:It}{v:Value}{a':List It}(h:PairT tv w g base (x::a) b out)(hv:SideT w base v a')(hob:∀u,w.cell? ⟨g,1,none⟩=some u->v.ownBlock=u.ownBlock):PairT tv (w.setCell ⟨g,1,none⟩ v) g base a' b out:=by
 obtain⟨va,vb,vo,h0,h1,h2,h3,h4⟩:=h
 exact⟨v,vb,vo,(by rw[hob va (h1.cell 1)];exact h0),h1.set_ 1 v,LO.set_ hv h1 (by decide),LO.set_ h3 h1 (by decide),LO.set_ h4 h1 (by decide)⟩
theorem PairT.setB{x:It}{v:Value}{b':List It}(h:PairT tv w g base a (x::b) out)(hv:SideT w base v b')(hob:∀u,w.cell? ⟨g,3,none⟩=some u->v.ownBlock=u.ownBlock):PairT tv (w.setCell ⟨g,3,none⟩ v) g base a b' out:=by
 obtain⟨va,vb,vo,h0,h1,h2,h3,h4⟩:=h
 exact⟨va,v,vo,(by rw[hob vb (h1.cell 3)];exact h0),h1.set_ 3 v,LO.set_ h2 h1 (by decide),LO.set_ hv h1 (by decide),LO.set_ h4 h1 (by decide)⟩
theorem PairT.told{v v':Value}{n:Nat}{d:Dl}{cs:Array Value}(h:PairT tv w g base a b out)(hvo:w.cell? ⟨g,4,none⟩=some v)(hn:out.length=n)(hcs:cs.toList=dlE.enc d)(hown:w'.ownsRow base 92 5 v' (n+1) (dlE.cells out++cs.toList))(hg:w.grownBy w' v.ownBlock):
  PairT tv (w'.setCell ⟨g,4,none⟩ v') g base a b (out++ [d])/\w'.cell? ⟨g,4,none⟩=some v/\w'.frozen? ⟨g,4,none⟩=false/\g<w'.heap.size/\(base<=g->FrT base w (w'.setCell ⟨g,4,none⟩ v')):=by
 obtain⟨va,vb,vo,h0,h1,h2,h3,h4⟩:=h
 have e:vo=v:=by have:=h1.cell 4;rw[hvo]at this;simpa using this.symm
 subst e
 have hne:vo.ownBlock≠some g:=own_blk_ne h4 h1 (by decide)
 have h1':Blk w' g 180 #[tv,va,tv,vb,vo]:=h1.grown hg (fun e=>hne e.symm)
 have keepS:∀ {v0:Value} {l:List It},SideT w base v0 l->SideT w' base v0 l:=fun hs=>by
  refine LO.keep hs hg fun r e=> ?_
  rcases h4.2 with⟨e0,_⟩ | ⟨g',cap,cur,e0,_,hh,_⟩
  ·rw[e0]at e;cases e
  ·rw[e0]at e;injection e with e;subst e
   exact⟨_,hh,fun cs e=>by injection e with _ e;cases e⟩
 have hd:LO dlE 92 w' base v' (out++ [d]):=LO.snoc hn rfl hcs hown
 refine⟨⟨va,vb,v',h0,h1'.set_ 4 v',LO.set_ (keepS h2) h1' (by decide),LO.set_ (keepS h3) h1' (by decide),LO.set_ hd h1' (by decide)⟩,h1'.cell 4,h1'.frozen 4,h1'.lt,fun hg'=>(FrT.grown h4 hg (.inr (.inr rfl))).trans (FrT.set_ h1' hg' (.inl rfl) 4 v')⟩
end
section
variable {tv:Value}{w:World}{g base:Nat}{a b:List It}{x y:It}{out:List Dl}
theorem dtop_a(h:PairT tv w g base (x::a) b out)(ha:a.length<=1000000):
  Calls Tryz.prog 167 #[.pointer (some ⟨g,0,none⟩)] w fun e w'=>e= .returned (.tuple #[.agg #[.int .i64 x.pg, .int .i64 (x.d:Nat), .string x.key, .string x.val], .bool true])/\Below w.heap.size w w':=by
 obtain⟨va,vb,vo,h0,h1,h2,h3,h4⟩:=h.blk
 obtain⟨gi,c,rfl,hgi1,hgi2,hcl,⟨i0,i1,i2,i3⟩,hs⟩:=h2.cons
 exact dtop_cons g 0 gi a.length c x w h1.lt hgi2 ha (h1.cell 1) i0 i1 i2 i3
theorem dtop_b(h:PairT tv w g base a (x::b) out)(hb:b.length<=1000000):
  Calls Tryz.prog 167 #[.pointer (some ⟨g,2,none⟩)] w fun e w'=>e= .returned (.tuple #[.agg #[.int .i64 x.pg, .int .i64 (x.d:Nat), .string x.key, .string x.val], .bool true])/\Below w.heap.size w w':=by
 obtain⟨va,vb,vo,h0,h1,h2,h3,h4⟩:=h.blk
 obtain⟨gi,c,rfl,hgi1,hgi2,hcl,⟨i0,i1,i2,i3⟩,hs⟩:=h3.cons
 exact dtop_cons g 2 gi b.length c x w h1.lt hgi2 hb (h1.cell 3) i0 i1 i2 i3
theorem dtop_a0(h:PairT tv w g base [] b out):
  Calls Tryz.prog 167 #[.pointer (some ⟨g,0,none⟩)] w fun e w'=>e= .returned (.tuple #[.agg #[.int .i64 0, .int .i64 0, .string ⟨#[]⟩, .string ⟨#[]⟩], .bool false])/\Below w.heap.size w w':=by
 obtain⟨va,vb,vo,h0,h1,h2,h3,h4⟩:=h.blk
 obtain⟨A,c,rfl⟩:=h2.nil
 exact dtop_nil g 0 A c w h1.lt (h1.cell 1)
theorem dtop_b0(h:PairT tv w g base a [] out):
  Calls Tryz.prog 167 #[.pointer (some ⟨g,2,none⟩)] w fun e w'=>e= .returned (.tuple #[.agg #[.int .i64 0, .int .i64 0, .string ⟨#[]⟩, .string ⟨#[]⟩], .bool false])/\Below w.heap.size w w':=by
 obtain⟨va,vb,vo,h0,h1,h2,h3,h4⟩:=h.blk
 obtain⟨A,c,rfl⟩:=h3.nil
 exact dtop_nil g 2 A c w h1.lt (h1.cell 3)
theorem dpop_a(h:PairT tv w g base (x::a) b out)(ha:a.length<=1000000):
  Calls Tryz.prog 168 #[.pointer (some ⟨g,0,none⟩)] w fun e w'=>e= .returned (.tuple #[])/\PairT tv w' g base a b out/\At g w w'/\(base<=g->FrT base w w'):=by
 obtain⟨va,vb,vo,h0,h1,h2,h3,h4⟩:=h.blk
 obtain⟨gi,c,rfl,hgi1,hgi2,hcl,_,hs⟩:=h2.cons
 refine(pop_any g 0 gi a.length c w ha hcl (h1.cell 1) (h1.frozen 1)).mono ?_
 rintro e w' ⟨rfl,rfl⟩
 exact⟨rfl,(h.setA hs fun u e=>by rw[h1.cell 1]at e;cases e;rfl).below (Below.refl _ _).drew,At.set_ g 1 w _,fun hg=>FrT.at_ (At.set_ g 1 w _) h1 hg (.inl rfl)⟩
theorem dpop_b(h:PairT tv w g base a (x::b) out)(hb:b.length<=1000000):
  Calls Tryz.prog 168 #[.pointer (some ⟨g,2,none⟩)] w fun e w'=>e= .returned (.tuple #[])/\PairT tv w' g base a b out/\At g w w'/\(base<=g->FrT base w w'):=by
 obtain⟨va,vb,vo,h0,h1,h2,h3,h4⟩:=h.blk
 obtain⟨gi,c,rfl,hgi1,hgi2,hcl,_,hs⟩:=h3.cons
 refine(pop_any g 2 gi b.length c w hb hcl (h1.cell 3) (h1.frozen 3)).mono ?_
 rintro e w' ⟨rfl,rfl⟩
 exact⟨rfl,(h.setB hs fun u e=>by rw[h1.cell 3]at e;cases e;rfl).below (Below.refl _ _).drew,At.set_ g 3 w _,fun hg=>FrT.at_ (At.set_ g 3 w _) h1 hg (.inl rfl)⟩
end
theorem donly_a(tv:Value)(g base:Nat)(x:It)(a b:List It)(out:List Dl)(w:World)(h:PairT tv w g base (x::a) b out)(hg:base<=g)(ha:a.length<=100000)(ho:out.length<=100000):
  Calls Tryz.prog 169 #[.pointer (some ⟨g,0,none⟩), .pointer (some ⟨g,0,none⟩), .bool true] w fun e w'=>e= .returned (.tuple #[])/\PairT tv w' g base a b (out++ [En.dOld (Td.x2 x)])/\FrT base w w':=by
 have hT:=hid_calls (dtop_a h (by omega))
 have hPo:=fun W h=>hid_calls (dpop_a (tv:=tv) (w:=W) (g:=g) (base:=base) (x:=x) (a:=a) (b:=b) (out:=out) h (by omega))
 go_enter Tryz.func169,Tryz.ntmps169
 go_wp2_with fail
 refine hT.out.mono ?_
 rintro e w1 ⟨rfl,b1⟩
 have hP1:=(h.below b1).below ((Below.refl _ w1).alloc (Nat.le_refl _) (.cells #[.int .i64 x.pg, .int .i64 (x.d:Nat), .string x.key, .string x.val] 255))
 have hlt1:=(h.below b1).lt
 have hb1:FrT base w (w1.alloc (.cells #[.int .i64 x.pg, .int .i64 (x.d:Nat), .string x.key, .string x.val] 255)):= .of_below (b1.alloc b1.size _)
 have hbx:=Blk.new w1 255 #[.int .i64 x.pg, .int .i64 (x.d:Nat), .string x.key, .string x.val]
 go_wp2_with fail
 refine(hPo _ hP1).out.mono ?_
 rintro e w2 ⟨rfl,hP2,at2,ft2⟩
 have hq:w1.heap.size≠g:=by omega
 have hb2:=hb1.trans (ft2 hg)
 have g2:=(at2.cell (p:=⟨w1.heap.size,2,none⟩) hq).trans (hbx.cell 2)
 have g3:=(at2.cell (p:=⟨w1.heap.size,3,none⟩) hq).trans (hbx.cell 3)
 have hz:w1.heap.size<w2.heap.size:=by rw[at2.size];simp
 have hz1:base<=w1.heap.size:=by have:=b1.size;omega
 clear hT hPo hP1 h hb1 hbx b1 hlt1 at2 ft2
 generalize w1.heap.size=q at*
 have hltg:=hP2.lt
 obtain⟨va,vb,vo,h0,h1,h2,h3,h4⟩:=hP2.blk
 obtain⟨Ao,co,rfl⟩:=h4.form
 have hc4:=h1.cell 4
 clear h1 h2 h3
 go_wp2_with fail
 have hbD:Below w2.heap.size w2 (w2.alloc (.cells #[.string x.key, .string x.val, .string ⟨#[]⟩, .bool true, .bool false] 92)).drew:=((Below.refl _ w2).alloc (Nat.le_refl _) _).drew
 have hP3:=hP2.below hbD
 have hown3:=(h4.below hbD).raw rfl (s:=5) rfl
 have hb3:base<=(w2.alloc (.cells #[.string x.key, .string x.val, .string ⟨#[]⟩, .bool true, .bool false] 92)).drew.heap.size:=by have:=hb2.size;simp;omega
 have hc3:(w2.alloc (.cells #[.string x.key, .string x.val, .string ⟨#[]⟩, .bool true, .bool false] 92)).drew.cell? ⟨g,4,none⟩=some (.slice Ao out.length co):=(hbD.cell (p:=⟨g,4,none⟩) hltg).trans hc4
 have hb4:=hb2.trans (.of_below hbD)
 go_region_law (first | (refine step_app1 rfl (.tmp 31) (.tmp 33) 78 rfl eiDl Tryz.underlying78 rfl (by decide) rfl hown3 rfl (by simp) rfl (by simp[Value.oneCell']) (by unfold maxLen;omega) (by omega) hb3 ?_;intro v' w6 hown' hgrow hbel;obtain⟨A6,c6,rfl⟩:=own_form hown';obtain⟨hP4,hc6,hf6,hl6,hfr6⟩:=hP3.told (d:=En.dOld (Td.x2 x)) hc3 rfl rfl hown' hgrow))
 all_goals
  go_end0
  exact⟨rfl,hP4,hb4.trans (hfr6 hg)⟩
theorem donly_b(tv:Value)(g base:Nat)(x:It)(a b:List It)(out:List Dl)(w:World)(h:PairT tv w g base a (x::b) out)(hg:base<=g)(hb0:b.length<=100000)(ho:out.length<=100000):
  Calls Tryz.prog 169 #[.pointer (some ⟨g,0,none⟩), .pointer (some ⟨g,2,none⟩), .bool false] w fun e w'=>e= .returned (.tuple #[])/\PairT tv w' g base a b (out++ [En.dNew (Td.x2 x)])/\FrT base w w':=by
 have hT:=hid_calls (dtop_b h (by omega))
 have hPo:=fun W h=>hid_calls (dpop_b (tv:=tv) (w:=W) (g:=g) (base:=base) (x:=x) (a:=a) (b:=b) (out:=out) h (by omega))
 go_enter Tryz.func169,Tryz.ntmps169
 go_wp2_with fail
 refine hT.out.mono ?_
 rintro e w1 ⟨rfl,b1⟩
 have hP1:=(h.below b1).below ((Below.refl _ w1).alloc (Nat.le_refl _) (.cells #[.int .i64 x.pg, .int .i64 (x.d:Nat), .string x.key, .string x.val] 255))
 have hlt1:=(h.below b1).lt
 have hb1:FrT base w (w1.alloc (.cells #[.int .i64 x.pg, .int .i64 (x.d:Nat), .string x.key, .string x.val] 255)):= .of_below (b1.alloc b1.size _)
 have hbx:=Blk.new w1 255 #[.int .i64 x.pg, .int .i64 (x.d:Nat), .string x.key, .string x.val]
 go_wp2_with fail
 refine(hPo _ hP1).out.mono ?_
 rintro e w2 ⟨rfl,hP2,at2,ft2⟩
 have hq:w1.heap.size≠g:=by omega
 have hb2:=hb1.trans (ft2 hg)
 have g2:=(at2.cell (p:=⟨w1.heap.size,2,none⟩) hq).trans (hbx.cell 2)
 have g3:=(at2.cell (p:=⟨w1.heap.size,3,none⟩) hq).trans (hbx.cell 3)
 have hz:w1.heap.size<w2.heap.size:=by rw[at2.size];simp
 have hz1:base<=w1.heap.size:=by have:=b1.size;omega
 clear hT hPo hP1 h hb1 hbx b1 hlt1 at2 ft2
 generalize w1.heap.size=q at*
 have hltg:=hP2.lt
 obtain⟨va,vb,vo,h0,h1,h2,h3,h4⟩:=hP2.blk
 obtain⟨Ao,co,rfl⟩:=h4.form
 have hc4:=h1.cell 4
 clear h1 h2 h3
 go_wp2_with fail
 have hbD:Below w2.heap.size w2 (w2.alloc (.cells #[.string x.key, .string ⟨#[]⟩, .string x.val, .bool false, .bool true] 92)).drew:=((Below.refl _ w2).alloc (Nat.le_refl _) _).drew
 have hP3:=hP2.below hbD
 have hown3:=(h4.below hbD).raw rfl (s:=5) rfl
 have hb3:base<=(w2.alloc (.cells #[.string x.key, .string ⟨#[]⟩, .string x.val, .bool false, .bool true] 92)).drew.heap.size:=by have:=hb2.size;simp;omega
 have hc3:(w2.alloc (.cells #[.string x.key, .string ⟨#[]⟩, .string x.val, .bool false, .bool true] 92)).drew.cell? ⟨g,4,none⟩=some (.slice Ao out.length co):=(hbD.cell (p:=⟨g,4,none⟩) hltg).trans hc4
 have hb4:=hb2.trans (.of_below hbD)
 go_region_law (first | (refine step_app1 rfl (.tmp 31) (.tmp 33) 78 rfl eiDl Tryz.underlying78 rfl (by decide) rfl hown3 rfl (by simp) rfl (by simp[Value.oneCell']) (by unfold maxLen;omega) (by omega) hb3 ?_;intro v' w6 hown' hgrow hbel;obtain⟨A6,c6,rfl⟩:=own_form hown';obtain⟨hP4,hc6,hf6,hl6,hfr6⟩:=hP3.told (d:=En.dNew (Td.x2 x)) hc3 rfl rfl hown' hgrow))
 all_goals
  go_end0
  exact⟨rfl,hP4,hb4.trans (hfr6 hg)⟩
theorem dBoth_eqT(x y:It):En.dBoth (Td.x2 x) (Td.x2 y)=if En.eqs x.val y.val then []else [⟨x.key,x.val,y.val,true,true⟩]:=rfl
theorem dboth_any(tv:Value)(g base:Nat)(px py:Int)(x y:It)(a b:List It)(out:List Dl)(w:World)(h:PairT tv w g base (x::a) (y::b) out)(hg:base<=g)(ha:a.length<=100000)(hb0:b.length<=100000)(ho:out.length<=100000):
  Calls Tryz.prog 171 #[.pointer (some ⟨g,0,none⟩), .agg #[.int .i64 px, .int .i64 (x.d:Nat), .string x.key, .string x.val], .agg #[.int .i64 py, .int .i64 (y.d:Nat), .string y.key, .string y.val]] w fun e w'=>e= .returned (.tuple #[])/\PairT tv w' g base a b (out++En.dBoth (Td.x2 x) (Td.x2 y))/\FrT base w w':=by
 have hPa:=fun W h=>hid_calls (dpop_a (tv:=tv) (w:=W) (g:=g) (base:=base) (x:=x) (a:=a) (b:=y::b) (out:=out) h (by omega))
 have hPb:=fun W h=>hid_calls (dpop_b (tv:=tv) (w:=W) (g:=g) (base:=base) (x:=y) (a:=a) (b:=b) (out:=out) h (by omega))
 have hbX:Below w.heap.size w ((w.alloc (.cells #[.int .i64 px, .int .i64 (x.d:Nat), .string x.key, .string x.val] 255)).alloc (.cells #[.int .i64 py, .int .i64 (y.d:Nat), .string y.key, .string y.val] 255)):=((Below.refl _ w).alloc (Nat.le_refl _) _).alloc (by simp) _
 have hP0:=h.below hbX
 have hBx:=(Blk.new w 255 #[.int .i64 px, .int .i64 (x.d:Nat), .string x.key, .string x.val]).alloc (.cells #[.int .i64 py, .int .i64 (y.d:Nat), .string y.key, .string y.val] 255)
 have hBy:=Blk.new (w.alloc (.cells #[.int .i64 px, .int .i64 (x.d:Nat), .string x.key, .string x.val] 255)) 255 #[.int .i64 py, .int .i64 (y.d:Nat), .string y.key, .string y.val]
 rw[World.size_alloc]at hBy
 have hq:w.heap.size≠g:=by have:=h.lt;omega
 have hq2:w.heap.size+1≠g:=by have:=h.lt;omega
 have hb1:FrT base w _:= .of_below hbX
 clear h hbX
 go_enter Tryz.func171,Tryz.ntmps171
 go_wp2_with fail
 generalize hw:((w.alloc (.cells #[.int .i64 px, .int .i64 (x.d:Nat), .string x.key, .string x.val] 255)).alloc (.cells #[.int .i64 py, .int .i64 (y.d:Nat), .string y.key, .string y.val] 255))=w1 at*
 generalize hqx:w.heap.size=q at*
 clear hw
 refine(hPa _ hP0).out.mono ?_
 rintro e w2 ⟨rfl,hP2,at2,ft2⟩
 have gx2:=(at2.cell (p:=⟨q,2,none⟩) hq).trans (hBx.cell 2)
 have gx3:=(at2.cell (p:=⟨q,3,none⟩) hq).trans (hBx.cell 3)
 have gy3:=(at2.cell (p:=⟨q+1,3,none⟩) hq2).trans (hBy.cell 3)
 have hb2:=hb1.trans (ft2 hg)
 have hz2:q+1<w2.heap.size:=by rw[at2.size];exact hBy.lt
 clear hP0 at2 ft2 hBx hBy hb1 hPa
 go_wp2_with fail
 refine(hPb _ hP2).out.mono ?_
 rintro e w3 ⟨rfl,hP3,at3,ft3⟩
 have g2:=(at3.cell (p:=⟨q,2,none⟩) hq).trans gx2
 have g3:=(at3.cell (p:=⟨q,3,none⟩) hq).trans gx3
 have gy:=(at3.cell (p:=⟨q+1,3,none⟩) hq2).trans gy3
 have hb3:=hb2.trans (ft3 hg)
 have hz3:q+1<w3.heap.size:=by rw[at3.size];exact hz2
 have hz4:q<w3.heap.size:=by omega
 clear hP2 at3 ft3 hb2 gx2 gx3 gy3 hz2 hPb
 have hltg:=hP3.lt
 obtain⟨va,vb,vo,h0,h1,h2,h3,h4⟩:=hP3.blk
 obtain⟨Ao,co,rfl⟩:=h4.form
 have hc4:=h1.cell 4
 clear h1 h2 h3
 cases heq:En.eqs x.val y.val with
 |true=>
  have hEq:(x.val.toList==y.val.toList)=true:=heq
  have hne:(!(x.val.toList==y.val.toList))=false:=by rw[hEq];rfl
  have hfin:out++En.dBoth (Td.x2 x) (Td.x2 y)=out:=by rw[dBoth_eqT,heq];simp
  have HF:=Lib.hid hfin
  clear heq hfin
  go_wp2_with fail
  go_end0
  exact⟨rfl,by rw[HF.out];exact hP3,hb3⟩
 |false=>
  have hEq:(x.val.toList==y.val.toList)=false:=heq
  have hne:(!(x.val.toList==y.val.toList))=true:=by rw[hEq];rfl
  have hfin:out++En.dBoth (Td.x2 x) (Td.x2 y)=out++ [⟨x.key,x.val,y.val,true,true⟩]:=by rw[dBoth_eqT,heq];rfl
  have HF:=Lib.hid hfin
  clear heq hfin
  go_wp2_with fail
  have hbD:Below w3.heap.size w3 w3.drew:=(Below.refl _ w3).drew
  have hP4:=hP3.below hbD
  have hown3:=(h4.below hbD).raw rfl (s:=5) rfl
  have hb4:base<=w3.drew.heap.size:=by have:=hb3.size;simp;omega
  have hc3:w3.drew.cell? ⟨g,4,none⟩=some (.slice Ao out.length co):=hc4
  have hb5:=hb3.trans (.of_below hbD)
  go_region_law (first | (refine step_app1 rfl (.tmp 23) (.tmp 31) 78 rfl eiDl Tryz.underlying78 rfl (by decide) rfl hown3 rfl (by simp) rfl (by simp[Value.oneCell']) (by unfold maxLen;omega) (by omega) hb4 ?_;intro v' w6 hown' hgrow hbel;obtain⟨A6,c6,rfl⟩:=own_form hown';obtain⟨hP5,hc6,hf6,hl6,hfr6⟩:=hP4.told (d:=⟨x.key,x.val,y.val,true,true⟩) hc3 rfl rfl hown' hgrow))
  all_goals
   go_end0
   exact⟨rfl,by rw[HF.out];exact hP5,hb5.trans (hfr6 hg)⟩
end Go.Proofs.YtjoiajmbfbjnnaaGreatDoor
namespace Td
open Nd En Tp
variable {v v':Int->Option Node}
theorem ItAt.pos{x:It}{l:List Ent}{k:Nat}(h:ItAt v x l k):1<=k/\l.length<=k:=by
 rcases h with⟨_,rfl,rfl⟩ | ⟨hh,s,hi,_,_,ht,_,_,rfl,rfl⟩
 ·simp
 ·have:=List.length_pos_of_mem (tr_id ht);omega
theorem Sd.len:∀ {a:List It} {L:List Ent} {m:Nat},Sd v a L m->a.length<=m/\L.length<=m
 | [],_,_,h=>by obtain⟨rfl,rfl⟩:=h;simp
 |x::a,_,_,h=>by
  obtain⟨l,L',k,m',rfl,rfl,h1,h2⟩:=h
  have:=h1.pos
  have:=Sd.len h2
  simp;omega
def ItOk(v':Int->Option Node)(bad:Int->Prop)(x:It):Prop:=x.pg≠0->0<x.pg/\x.d<24/\((∃n,v' x.pg=some n)\/(v' x.pg=none/\bad x.pg))
theorem ItAt.ok{bad:Int->Prop}(hv:∀i,v' i=v i\/(v' i=none/\bad i)){x:It}{l:List Ent}{k:Nat}(h:ItAt v x l k):ItOk v' bad x:=fun h0=>by
 rcases h with⟨e,_⟩ | ⟨hh,s,hi,e1,e2,ht,_,hd,_,_⟩
 ·exact absurd e h0
 ·refine⟨e2,by omega, ?_⟩
  rcases hv x.pg with e | e
  ·rw[e,e1]
   cases hh with
   |zero=>exact .inl ⟨_,ht.1⟩
   |succ hh=>obtain⟨subs,keys,b1,_⟩:=ht;exact .inl ⟨_,b1⟩
  ·exact .inr e
theorem Sd.ok{bad:Int->Prop}(hv:∀i,v' i=v i\/(v' i=none/\bad i)){x:It}{a:List It}{L:List Ent}{m:Nat}(h:Sd v (x::a) L m):ItOk v' bad x:=by
 obtain⟨l,L',k,m',rfl,rfl,h1,h2⟩:=h
 exact h1.ok hv
def Run(v:Int->Option Node)(W:List Dl)(a b:List It)(o:List Dl)(m:Nat):Prop:=∃A B m1 m2,Sd v a A m1/\Sd v b B m2/\Srt A/\Srt B/\o++mergeD A B=W/\m1+m2=m
theorem Run.len{W:List Dl}{a b:List It}{o:List Dl}{m:Nat}(h:Run v W a b o m):a.length<=m/\b.length<=m/\o.length<=W.length:=by
 obtain⟨A,B,m1,m2,h1,h2,_,_,h3,h4⟩:=h
 have:=h1.len
 have:=h2.len
 rw[<-h3,List.length_append]
 omega
theorem Run.oka{bad:Int->Prop}(hv:∀i,v' i=v i\/(v' i=none/\bad i)){W:List Dl}{x:It}{a b:List It}{o:List Dl}{m:Nat}(h:Run v W (x::a) b o m):ItOk v' bad x:=by
 obtain⟨A,B,m1,m2,h1,h2,_⟩:=h;exact h1.ok hv
theorem Run.okb{bad:Int->Prop}(hv:∀i,v' i=v i\/(v' i=none/\bad i)){W:List Dl}{x:It}{a b:List It}{o:List Dl}{m:Nat}(h:Run v W a (x::b) o m):ItOk v' bad x:=by
 obtain⟨A,B,m1,m2,h1,h2,_⟩:=h;exact h2.ok hv
theorem Run.step{W:List Dl}{a b:List It}{o:List Dl}{m:Nat}(h:Run v W a b o m):
  (a= []/\b= []/\o=W/\stepD v a b o=some none)\/∃a' b' o' m',stepD v a b o=some (some (a',b',o'))/\Run v W a' b' o' m'/\m'<m:=by
 obtain⟨A,B,m1,m2,h1,h2,h3,h4,rfl,rfl⟩:=h
 rcases step_ok (o:=o) h1 h2 h3 h4 with⟨e1,e2,rfl,rfl,e5⟩ | ⟨a',b',o',A',B',n1,n2,e1,e2,e3,e4,e5,e6,e7⟩
 ·exact .inl ⟨e1,e2,by rw[merge_nil,List.append_nil],e5⟩
 ·exact .inr ⟨a',b',_,_,e1,⟨A',B',n1,n2,e2,e3,e4,e5,by rw[e6,List.append_assoc],rfl⟩,e7⟩
theorem Run.less{bad:Int->Prop}(hv:∀i,v' i=v i\/(v' i=none/\bad i)){W:List Dl}{a b:List It}{o:List Dl}{m:Nat}(h:Run v W a b o m):
  stepD v' a b o=none\/(a= []/\b= []/\o=W/\stepD v' a b o=some none)\/∃a' b' o' m',stepD v' a b o=some (some (a',b',o'))/\Run v W a' b' o' m'/\m'<m:=by
 rcases step_less (v:=v) (v':=v') (fun i=>by rcases hv i with e | e;exact .inr e;exact .inl e.1) a b o with e | e
 ·exact .inl e
 ·rw[e];exact .inr h.step
theorem Run.start{ra rb:Int}{A B:List Ent}{ta tb:Nat}{ia ib:List Int}(ha:VerAt v ra A ta ia)(hb:VerAt v rb B tb ib)(pa:∀i∈ia,0<i)(pb:∀i∈ib,0<i)(qa:ta<=1000000)(qb:tb<=1000000)(sa:Srt A)(sb:Srt B):
  Run v (mergeD A B) (rootIt ra) (rootIt rb) [] (ia.length+A.length+(ib.length+B.length)):=
 ⟨A,B,_,_,sd_root ha pa qa,sd_root hb pb qb,sa,sb,rfl,rfl⟩
end Td
namespace Td
open Nd En Tp
def lowAt(keys:List Str)(low:Str)(j:Nat):Str:=if j=0 then low else keys.getD (j-1) nil
theorem kidsFrom_len(d:Nat):∀ (kids:List Int) (keys:List Str) (low:Str),(kidsFrom d kids keys low).length=kids.length
 | [],_,_=>rfl
 |k::r,ks,low=>by unfold kidsFrom;rw[List.length_cons,List.length_cons,kidsFrom_len d r]
theorem kidsFrom_drop(d:Nat):∀ (kids:List Int) (keys:List Str) (low:Str) (j:Nat) (h:j<kids.length),(kidsFrom d kids keys low).drop j=⟨kids[j],d,lowAt keys low j,nil⟩::(kidsFrom d kids keys low).drop (j+1)
 |k::r,ks,low,0,_=>rfl
 |k::r,ks,low,j+1,h=>by
  have ih:=kidsFrom_drop d r ks.tail (ks.headD nil) j (by simpa using h)
  have e:lowAt ks.tail (ks.headD nil) j=lowAt ks low (j+1):=by
   unfold lowAt
   cases j with
   |zero=>cases ks<;>rfl
   |succ j=>cases ks<;>rfl
  unfold kidsFrom
  rw[List.drop_succ_cons,List.drop_succ_cons,ih,e]
  rfl
end Td
namespace Go.Proofs.YtjoiajmbfbjnnaaGreatDoor
open Go.RowKit Go.Shelf
theorem Fr.cell{S:Nat->Prop}{w w':World}(h:Fr S w w'){p:Addr}(hp:p.block<w.heap.size)(hn:¬S p.block):w'.cell? p=w.cell? p:=World.cell?_of_block (h.block _ hp hn)
theorem Fr.frz{S:Nat->Prop}{w w':World}(h:Fr S w w'){p:Addr}(hp:p.block<w.heap.size)(hn:¬S p.block):w'.frozen? p=w.frozen? p:=by unfold World.frozen?;rw[h.block _ hp hn]
def BadGet(S:Nat->Prop)(t:Nat)(TM:Nat->Tp.Pst->World->Prop)(bad:Int->Prop):Prop:=
 ∀ {r σ w id},TM (r+1) σ w->bad id->∀k:Nat,k=1\/k=2->Calls Tryz.prog 146 #[.pointer (some ⟨t,0,none⟩), .int .i64 id, .int .u8 k] w fun e w'=>e= .returned (.tuple #[.string ⟨#[]⟩, .int .i64 3])/\TM r σ w'/\Fr S w w'
section
variable {S:Nat->Prop}{B t:Nat}{room:Int}{disk:Tp.Disk}{TM:Nat->Tp.Pst->World->Prop}{bad:Int->Prop}
def DLEnd(S:Nat->Prop)(TM:Nat->Tp.Pst->World->Prop)(r:Nat)(σ:Tp.Pst)(vw:Option Nd.Node)(w:World)(e:Ending)(w':World):Prop:=
 (∃n,vw=some n/\∃v,e= .returned (.tuple #[v, .int .i64 0])/\NF w.heap.size w' v n/\TM r σ w'/\Fr S w w')\/
 (vw=none/\e= .returned (.tuple #[.agg #[.bool false, .slice none 0 0, .slice none 0 0, .slice none 0 0], .int .i64 3])/\TM r σ w'/\Fr S w w')
def GetS(S:Nat->Prop)(t:Nat)(TM:Nat->Tp.Pst->World->Prop)(r:Nat)(σ:Tp.Pst)(id:Int)(k:Nat)(s:ByteArray)(z:Int):Prop:=
 ∀w,TM (r+1) σ w->Calls Tryz.prog 146 #[.pointer (some ⟨t,0,none⟩), .int .i64 id, .int .u8 k] w fun e w'=>e= .returned (.tuple #[.string s, .int .i64 z])/\TM r σ w'/\Fr S w w'
theorem get_two(M:Mach S B t room disk TM)(hbad:BadGet S t TM bad)(r:Nat)(σ:Tp.Pst)(id:Int)(hok:(∃n,σ.view disk id=some n)\/(σ.view disk id=none/\bad id)):
  (∃n,σ.view disk id=some n/\n.leaf=true/\GetS S t TM (r+1) σ id 1 (Nd.str (Nd.enc n)) 0)\/
  (GetS S t TM (r+1) σ id 1 ⟨#[]⟩ 3/\((∃n,σ.view disk id=some n/\n.leaf=false/\GetS S t TM r σ id 2 (Nd.str (Nd.enc n)) 0)\/(σ.view disk id=none/\GetS S t TM r σ id 2 ⟨#[]⟩ 3))):=by
 rcases hok with⟨n,hv⟩ | ⟨hv,hb⟩
 ·cases hl:n.leaf with
  |true=>exact .inl ⟨n,hv,hl,fun w h=>M.get h hv 1 (fun _=>rfl) (fun e=>by rw[hl]at e;cases e)⟩
  |false=>exact .inr ⟨fun w h=>M.getN h hv hl, .inl ⟨n,hv,hl,fun w h=>M.get h hv 2 (fun e=>by rw[hl]at e;cases e) (fun _=>rfl)⟩⟩
 ·exact .inr ⟨fun w h=>hbad h hb 1 (.inl rfl), .inr ⟨hv,fun w h=>hbad h hb 2 (.inr rfl)⟩⟩
theorem dload_any(M:Mach S B t room disk TM)(hbad:BadGet S t TM bad)(g o:Nat)(r:Nat)(σ:Tp.Pst)(x:It)(hok:(∃n,σ.view disk x.pg=some n)\/(σ.view disk x.pg=none/\bad x.pg))(hd:x.d<24)(w:World)(h:TM (r+2) σ w)(hg:B<=g)(hgl:g<w.heap.size)(hc:w.cell? ⟨g,o,none⟩=some (.pointer (some ⟨t,0,none⟩))):
  Calls Tryz.prog 216 #[.pointer (some ⟨g,o,none⟩), .agg #[.int .i64 x.pg, .int .i64 (x.d:Nat), .string x.key, .string x.val]] w (DLEnd S TM r σ (σ.view disk x.pg) w):=by
 have hget:=get_two M hbad r σ x.pg hok
 have hfit:Hid (∀n,σ.view disk x.pg=some n->Nd.fits n=true):=Lib.hid fun n hv=>(M.ht h hv).1
 have hb1:=((Below.refl w.heap.size w).alloc (Nat.le_refl _) (.cells #[.int .i64 x.pg, .int .i64 (x.d:Nat), .string x.key, .string x.val] 255)).alloc (by simp) (.cells #[.bool false, .slice none 0 0, .slice none 0 0, .slice none 0 0] 32)
 have H1:=Lib.hid (M.below h hb1)
 have HBX:=Lib.hid ((Blk.new w 255 #[.int .i64 x.pg, .int .i64 (x.d:Nat), .string x.key, .string x.val]).alloc (.cells #[.bool false, .slice none 0 0, .slice none 0 0, .slice none 0 0] 32))
 have hBg:=Blk.new (w.alloc (.cells #[.int .i64 x.pg, .int .i64 (x.d:Nat), .string x.key, .string x.val] 255)) 32 #[.bool false, .slice none 0 0, .slice none 0 0, .slice none 0 0]
 rw[World.size_alloc]at hBg
 have HBG:=Lib.hid hBg
 have hsz:=M.size h
 have hd1:¬24<=(x.d:Int):=by omega
 have hc1:=(hb1.cell (p:=⟨g,o,none⟩) hgl).trans hc
 have lg1:g<((w.alloc (.cells #[.int .i64 x.pg, .int .i64 (x.d:Nat), .string x.key, .string x.val] 255)).alloc (.cells #[.bool false, .slice none 0 0, .slice none 0 0, .slice none 0 0] 32)).heap.size:=Nat.lt_of_lt_of_le hgl hb1.size
 have HM:=Lib.hid M
 have HB1:=Lib.hid hb1
 have HZ0:Hid (w.heap.size+1<((w.alloc (.cells #[.int .i64 x.pg, .int .i64 (x.d:Nat), .string x.key, .string x.val] 255)).alloc (.cells #[.bool false, .slice none 0 0, .slice none 0 0, .slice none 0 0] 32)).heap.size):=Lib.hid hBg.lt
 clear hBg hb1 h M hc hok hd
 go_enter Tryz.func216,Tryz.ntmps216
 go_wp2_with fail
 generalize hw:((w.alloc (.cells #[.int .i64 x.pg, .int .i64 (x.d:Nat), .string x.key, .string x.val] 255)).alloc (.cells #[.bool false, .slice none 0 0, .slice none 0 0, .slice none 0 0] 32))=w0 at*
 clear hw
 have hS0:w0.drew.cell? ⟨g,o,none⟩=some (.pointer (some ⟨t,0,none⟩))/\w0.drew.cell? ⟨w.heap.size,0,none⟩=some (.int .i64 x.pg):=⟨hc1,HBX.out.cell 0⟩
 have hnS:∀ {k},B<=k->¬S k:=fun {k} hk=>HM.out.far hk
 have lx0:=HBX.out.lt
 have HK0:Hid (∀w1,Fr S w0.drew w1->w1.cell? ⟨g,o,none⟩=some (.pointer (some ⟨t,0,none⟩))/\w1.cell? ⟨w.heap.size,0,none⟩=some (.int .i64 x.pg)):=Lib.hid fun w1 hf1=>⟨(hf1.cell (p:=⟨g,o,none⟩) lg1 (hnS hg)).trans hS0.1,(hf1.cell (p:=⟨w.heap.size,0,none⟩) lx0 (hnS hsz)).trans hS0.2⟩
 have HTD:=Lib.hid (HM.out.below H1.out (Below.refl _ _).drew)
 rcases hget with⟨n,hv,hlf,hG⟩ | ⟨hG,hget⟩
 ·have HG0:=Lib.hid (hG _ HTD.out)
  have hD:=Lib.hid (fun W=>ndecode_any n (hfit.out n hv) W)
  have hk:Nd.kind n=1:=by unfold Nd.kind;rw[if_pos hlf]
  rw[hk]at hD
  generalize Nd.str (Nd.enc n)=s at*
  clear hnS hG hlf hk hfit
  go_region_held3 (fun W=>W.cell? ⟨g,o,none⟩=some (.pointer (some ⟨t,0,none⟩))/\W.cell? ⟨w.heap.size,0,none⟩=some (.int .i64 x.pg)) (first | exact hS0 | exact hS1)
   (first | (go_at_call 146;refine Calls.mono HG0.out ?_;rintro e w1 ⟨rfl,ht1,hf1⟩;have hS1:=HK0.out _ hf1))
  have hnS:∀ {k},B<=k->¬S k:=fun {k} hk=>HM.out.far hk
  have HFW1:Hid (Fr S w0 w1):=Lib.hid (Fr.trans (.of_below (Below.refl _ _).drew) hf1)
  have HFW:Hid (Fr S w w1):=Lib.hid ((Fr.of_below HB1.out).trans HFW1.out)
  have hz1:=HFW1.out.size
  have hz0:=HZ0.out
  have HT:=Lib.hid (HM.out.less ht1 (Nat.le_succ _))
  clear hf1 ht1 HTD HG0 HK0 hS0 hS1 HB1 HBX lx0 lg1 hc1 H1 HZ0
  have hbo:=HFW1.out.blk HBG.out (hnS (Nat.le_succ_of_le hsz))
  have HBG2:=Lib.hid hbo
  clear hbo
  go_wp2_with fail
  refine(hD.out _).mono ?_
  rintro e w4 ⟨v,rfl,hnf,hb2⟩
  have hz2:=hb2.size
  have hBg:=HBG2.out.below hb2 HBG2.out.lt
  have hfw:=HFW.out.trans (.of_below hb2)
  have HT4:=Lib.hid (HM.out.below HT.out hb2)
  obtain⟨A1,k1,A2,k2,A3,k3,rfl,rr⟩:=hnf
  have f0:=hBg.frozen 0
  have f1:=hBg.frozen 1
  have f2:=hBg.frozen 2
  have f3:=hBg.frozen 3
  have c0:=hBg.cell 0
  have c1:=hBg.cell 1
  have c2:=hBg.cell 2
  have c3:=hBg.cell 3
  have lg:=hBg.lt
  have HBG:=Lib.hid hBg
  have HFW:=Lib.hid hfw
  have HRR:=Lib.hid rr
  clear hBg hfw rr hb2
  unfold nodeV
  go_wp2
  try simp only[Exit.inBlock,Exit.then]
  refine bodyPost_ret (res_cell_tmp node_struct rfl rfl (HBG.out.put4 _ _ _ _) rfl) rfl ?_
  have hfr:∀a b c d,Fr (fun k=>k=w.heap.size+1) w4 _:=fun a b c d=>Fr.put4 (w:=w4) (g:=w.heap.size+1) (S:=fun k=>k=w.heap.size+1) rfl a b c d
  exact .inl ⟨n,hv,_,rfl,NF.lower (NF.fr ⟨A1,k1,A2,k2,A3,k3,rfl,HRR.out⟩ (hfr _ _ _ _) (fun k hk=>by omega)) (by omega),HM.out.own HT4.out (hfr _ _ _ _) HBG.out (Nat.le_succ_of_le hsz) (by decide) (by decide) (by decide) (by decide),Fr.old (S':=fun k=>S k\/k=w.heap.size+1) ((HFW.out.more fun _=> .inl).trans ((hfr _ _ _ _).more fun _=> .inr)) (fun k hk=>hk.imp_right fun e=>by omega)⟩
 ·have HG0:=Lib.hid (hG _ HTD.out)
  have HK1:Hid (∀w1 w2,Fr S w0.drew w1->Fr S w1.drew w2->w2.cell? ⟨g,o,none⟩=some (.pointer (some ⟨t,0,none⟩))/\w2.cell? ⟨w.heap.size,0,none⟩=some (.int .i64 x.pg)):=Lib.hid fun w1 w2 a b=>⟨(b.cell (p:=⟨g,o,none⟩) (Nat.lt_of_lt_of_le lg1 a.size) (hnS hg)).trans (HK0.out _ a).1,(b.cell (p:=⟨w.heap.size,0,none⟩) (Nat.lt_of_lt_of_le lx0 a.size) (hnS hsz)).trans (HK0.out _ a).2⟩
  clear hnS hG
  go_region_held3 (fun W=>W.cell? ⟨g,o,none⟩=some (.pointer (some ⟨t,0,none⟩))/\W.cell? ⟨w.heap.size,0,none⟩=some (.int .i64 x.pg)) (first | exact hS0 | exact hS1)
   (first | (go_at_call 146;refine Calls.mono HG0.out ?_;rintro e w1 ⟨rfl,ht1,hf1⟩;have hS1:=HK0.out _ hf1))
  have lg2:g<w1.heap.size:=Nat.lt_of_lt_of_le lg1 hf1.size
  have lx2:w.heap.size<w1.heap.size:=Nat.lt_of_lt_of_le lx0 hf1.size
  have hS2:w1.drew.cell? ⟨g,o,none⟩=some (.pointer (some ⟨t,0,none⟩))/\w1.drew.cell? ⟨w.heap.size,0,none⟩=some (.int .i64 x.pg):=hS1
  have k1:=hS1.1
  have k2:=hS1.2
  have HTD1:=Lib.hid (HM.out.below ht1 (Below.refl _ _).drew)
  have HFW1:Hid (Fr S w0 w1):=Lib.hid (Fr.trans (.of_below (Below.refl _ _).drew) hf1)
  have HK2:Hid (∀w2,Fr S w1.drew w2->w2.cell? ⟨g,o,none⟩=some (.pointer (some ⟨t,0,none⟩))/\w2.cell? ⟨w.heap.size,0,none⟩=some (.int .i64 x.pg)):=Lib.hid fun w2 b=>HK1.out w1 w2 hf1 b
  clear hf1 ht1 HK0 HK1 hS0 hS1 hc1 HTD HG0 H1
  rcases hget with⟨n,hv,hlf,hG⟩ | ⟨hv,hG⟩
  ·have HG2:=Lib.hid (hG _ HTD1.out)
   have hD:=Lib.hid (fun W=>ndecode_any n (hfit.out n hv) W)
   have hk:Nd.kind n=2:=by unfold Nd.kind;rw[if_neg (by rw[hlf];simp)]
   rw[hk]at hD
   generalize Nd.str (Nd.enc n)=s at*
   clear hG hlf hk hfit
   go_wp2_with fail
   go_region_held3 (fun W=>W.cell? ⟨g,o,none⟩=some (.pointer (some ⟨t,0,none⟩))/\W.cell? ⟨w.heap.size,0,none⟩=some (.int .i64 x.pg)) (first | exact hS2 | exact hS3)
    (first | (go_at_call 146;refine Calls.mono HG2.out ?_;rintro e w2 ⟨rfl,ht2,hf2⟩;have hS3:=HK2.out _ hf2))
   have hnS:∀ {k},B<=k->¬S k:=fun {k} hk=>HM.out.far hk
   have HFW1:Hid (Fr S w0 w2):=Lib.hid (HFW1.out.trans (Fr.trans (.of_below (Below.refl _ _).drew) hf2))
   have HFW:Hid (Fr S w w2):=Lib.hid ((Fr.of_below HB1.out).trans HFW1.out)
   have hz1:=HFW1.out.size
   have hz0:=HZ0.out
   have HT:=Lib.hid ht2
   clear hf2 ht2 HTD1 HG2 HK2 hS2 hS3 HB1 HBX lx0 lg1 lx2 lg2 HZ0
   have hbo:=HFW1.out.blk HBG.out (hnS (Nat.le_succ_of_le hsz))
   have HBG2:=Lib.hid hbo
   clear hbo
   go_wp2_with fail
   refine(hD.out _).mono ?_
   rintro e w4 ⟨v,rfl,hnf,hb2⟩
   have hz2:=hb2.size
   have hBg:=HBG2.out.below hb2 HBG2.out.lt
   have hfw:=HFW.out.trans (.of_below hb2)
   have HT4:=Lib.hid (HM.out.below HT.out hb2)
   obtain⟨A1,k1,A2,k2,A3,k3,rfl,rr⟩:=hnf
   have f0:=hBg.frozen 0
   have f1:=hBg.frozen 1
   have f2:=hBg.frozen 2
   have f3:=hBg.frozen 3
   have c0:=hBg.cell 0
   have c1:=hBg.cell 1
   have c2:=hBg.cell 2
   have c3:=hBg.cell 3
   have lg:=hBg.lt
   have HBG:=Lib.hid hBg
   have HFW:=Lib.hid hfw
   have HRR:=Lib.hid rr
   clear hBg hfw rr hb2
   unfold nodeV
   go_wp2
   try simp only[Exit.inBlock,Exit.then]
   refine bodyPost_ret (res_cell_tmp node_struct rfl rfl (HBG.out.put4 _ _ _ _) rfl) rfl ?_
   have hfr:∀a b c d,Fr (fun k=>k=w.heap.size+1) w4 _:=fun a b c d=>Fr.put4 (w:=w4) (g:=w.heap.size+1) (S:=fun k=>k=w.heap.size+1) rfl a b c d
   exact .inl ⟨n,hv,_,rfl,NF.lower (NF.fr ⟨A1,k1,A2,k2,A3,k3,rfl,HRR.out⟩ (hfr _ _ _ _) (fun k hk=>by omega)) (by omega),HM.out.own HT4.out (hfr _ _ _ _) HBG.out (Nat.le_succ_of_le hsz) (by decide) (by decide) (by decide) (by decide),Fr.old (S':=fun k=>S k\/k=w.heap.size+1) ((HFW.out.more fun _=> .inl).trans ((hfr _ _ _ _).more fun _=> .inr)) (fun k hk=>hk.imp_right fun e=>by omega)⟩
  ·have HG2:=Lib.hid (hG _ HTD1.out)
   clear hG hfit
   go_wp2_with fail
   go_region_held3 (fun W=>W.cell? ⟨g,o,none⟩=some (.pointer (some ⟨t,0,none⟩))/\W.cell? ⟨w.heap.size,0,none⟩=some (.int .i64 x.pg)) (first | exact hS2 | exact hS3)
    (first | (go_at_call 146;refine Calls.mono HG2.out ?_;rintro e w2 ⟨rfl,ht2,hf2⟩;have hS3:=HK2.out _ hf2))
   have HFW1:Hid (Fr S w0 w2):=Lib.hid (HFW1.out.trans (Fr.trans (.of_below (Below.refl _ _).drew) hf2))
   have HFW:Hid (Fr S w w2):=Lib.hid ((Fr.of_below HB1.out).trans HFW1.out)
   have hz1:=HFW1.out.size
   have hz0:=HZ0.out
   have hBg:=HFW1.out.blk HBG.out (HM.out.far (Nat.le_succ_of_le hsz))
   have HT:=Lib.hid ht2
   have f0:=hBg.frozen 0
   have f1:=hBg.frozen 1
   have f2:=hBg.frozen 2
   have f3:=hBg.frozen 3
   have c0:=hBg.cell 0
   have c1:=hBg.cell 1
   have c2:=hBg.cell 2
   have c3:=hBg.cell 3
   have lg:=hBg.lt
   have HBG:=Lib.hid hBg
   clear hf2 ht2 HTD1 HG2 HK2 hS2 hS3 HB1 HBX lx0 lg1 lx2 lg2 HZ0 hBg HFW1
   go_wp2
   try simp only[Exit.inBlock,Exit.then]
   refine bodyPost_ret (res_cell_tmp node_struct rfl rfl (HBG.out.put4 _ _ _ _) rfl) rfl ?_
   have hfr:∀a b c d,Fr (fun k=>k=w.heap.size+1) w2 _:=fun a b c d=>Fr.put4 (w:=w2) (g:=w.heap.size+1) (S:=fun k=>k=w.heap.size+1) rfl a b c d
   exact .inr ⟨hv,rfl,HM.out.own HT.out (hfr _ _ _ _) HBG.out (Nat.le_succ_of_le hsz) (by decide) (by decide) (by decide) (by decide),Fr.old (S':=fun k=>S k\/k=w.heap.size+1) ((HFW.out.more fun _=> .inl).trans ((hfr _ _ _ _).more fun _=> .inr)) (fun k hk=>hk.imp_right fun e=>by omega)⟩
end
section
variable {a:Act}{o:Oper}{x y z:Operand}{w:World}{ad:Addr}{v:Value}{R:Value->World->Prop}
theorem does_appn{α:Type}{E:Enc α}{t ty:TypeId}{zv:Value}{k bytes bs b:Nat}{l:List α}{s:α}(hk:E.size=k)(hE:EI Tryz.prog ty zv k bytes)(ht:Tryz.prog.underlying t=some (.slice ty))(hz:zv.cells.size=k)
  (ho:o.op= .call { callee:= .builtin .append,args:= #[x,y],argTypes:= #[t,t] }) (hx:a.eval x=v) (hown:LO E ty w bs v l) (hy:a.eval y= .slice (some ⟨b,0,none⟩) 1 1) (hB:Blk w b ty (E.enc s).toArray) (hlen:l.length+1<=maxLen) (hby:(l.length+1)*bytes<=140737488355328) (hbs:bs<=w.heap.size)
  (hR:∀v' w',LO E ty w' bs v' (l++ [s])->w.grownBy w' v.ownBlock->(v'.ownBlock=v.ownBlock\/∃g,v'.ownBlock=some g/\w.heap.size<=g)->R v' w'):Does o a w R:=by
 obtain⟨i,hi,hz0,hz1,hz2⟩:=hE
 have h1:∀u∈E.enc s,u.oneCell'=true:=fun u hu=>E.one s u hu
 have hcell:∀ (j:Nat) (u:Value),(E.enc s)[j]? =some u->w.cell? ((⟨b,0,none⟩:Addr).add j)=some u:=by
  intro j u hu
  have e1:((⟨b,0,none⟩:Addr).add j)=⟨b,j,none⟩:=by rw[Addr.add_lit];simp
  rw[e1,hB.cell j]
  simpa using hu
 have hown':w.ownsRow bs ty k v l.length (E.cells l):=hown.raw rfl hk
 obtain⟨v',w',hrun,h2,h3,h4,h5⟩:=run_append_own_at (P:=Tryz.prog) w bs t o.type ty i zv k bytes ht hi hz0 hz1 hz2 hz (by have:=E.pos;omega) v l.length (E.cells l) hown' ⟨b,0,none⟩ 1 1 (E.enc s) (by rw[E.len,hk];simp) hcell h1 hlen hby hbs
 refine Does.val (v:=v') (w':=w') ?_ (hR v' w' ?_ h3 ?_)
 ·unfold execOp
  simp only[ho,resolve,invoke,builtin,Sem.run_bind,Sem.run_pure,Result.andThen_ok,List.map_toArray,List.map_cons,List.map_nil,hx,hy,hrun]
 ·unfold LO
  rw[hk,E.cells_snoc,List.length_append]
  exact h2
 ·rcases h5 with h5 | h5
  ·exact .inl h5
  ·exact .inr ⟨_,h5,Nat.le_refl _⟩
end
section
variable {base:Nat}{Q:Exit->Act->World->Prop}{ops:Array Oper}{w:World}
structure LastInv2{base:Nat}(mk:(Nat->Value)->Act)(Vs:List (Is base))(ops:Array Oper)(n:Nat)(w:World)(L:Array Bool)(a:Act)(W:World):Prop where
 sz:L.size=ops.size
 fr:Fr (OwnS Vs) w W
 old:∀i k,(isAt Vs i).own=some k->L.getD i false=false->W.heap[k]? =w.heap[k]?
 lst:L.getD n false=false
 closed:∀j i,L.getD j false=true->depOn ops j i=true->L.getD i false=true
 act:∃u,a=mk u/\∀i,i<n->L.getD i false=true->(isAt Vs i).p (u i) W
theorem wpAny_last2{md:Region.Mode}{n:Nat}(mk:(Nat->Value)->Act)(Vs:List (Is base))(hmd:md= .any)(hn:ops.size=n+1)
  (hlow:((List.range ops.size).all fun i=>((ops[i]?).map fun o=>o.after.toList.all fun e=> !Region.binds .any e||decide (e.on<i)).getD true)=true)
  (hlast:((List.range n).all fun i=>depOn ops n i||(List.range n).any fun j=>depOn ops n j&&depOn ops j i)=true)
  (hgd:ops.toList.all (fun o=>o.guard.isNone)=true) (hbw:base<=w.heap.size) (hown:∀k,OwnS Vs k->k<base) (hnd:(Vs.filterMap (·.own)).Nodup)
  (hstep:∀i o,i<n->ops[i]? =some o->∀u W,Fr (OwnS Vs) w W->(∀k,(isAt Vs i).own=some k->W.heap[k]? =w.heap[k]?)->(∀j,depOn ops i j=true->(isAt Vs j).p (u j) W)->Step1 mk Vs i o u W)
  (hend:∀o,ops[n]? =some o->∀u W,Fr (OwnS Vs) w W->(∀i,i<n->(isAt Vs i).p (u i) W)->Does o (mk u) W (fun v W'=>Q .normal ((mk u).put o.dst v) W')):
  ∀fuel L a W,LastInv2 mk Vs ops n w L a W->L.toList.count false<=fuel->wpAny Tryz.prog md ops Q fuel L a W:=by
 subst hmd
 have hnr:∀ (L:Array Bool),L.size=ops.size->Region.ready .any ops L= []->L.getD n false=true:=fun L hs hr=>ready_all hr hs hlow n (by omega)
 have hall:∀ (L:Array Bool),(∀i,i<ops.size->L.getD i false=true)->L.size=ops.size->Region.ready .any ops L= []:=fun L hL hs=>by
  cases hr:Region.ready .any ops L with
  |nil=>rfl
  |cons i r=>
   have hm:=ready_mem (md:= .any) (ops:=ops) (L:=L) (i:=i) (by rw[hr];exact List.mem_cons_self ..)
   have h1:=hL i hm.1
   have h2:=hm.2.1
   have h3:i<L.size:=by have:=hm.1;omega
   simp[Array.getD,h3]at h1 h2
   rw[h1]at h2;cases h2
 intro fuel
 induction fuel with
 |zero=>
  intro L a W hI hc
  exfalso
  have hL:n<L.size:=by have:=hI.sz;omega
  have h4:L.toList.count false=0:=by omega
  rw[List.count_eq_zero]at h4
  have h3:L[n]=false:=by simpa[Array.getD,hL]using hI.lst
  exact h4 (by rw[<-h3];exact Array.mem_toList_iff.2 (Array.getElem_mem hL))
 |succ fuel ih=>
  intro L a W hI hc
  refine⟨fun hr=>(by have:=hnr L hI.sz hr;rw[hI.lst]at this;cases this),fun i hi=> ?_⟩
  have hm:=ready_mem hi
  have hL:i<L.size:=by have:=hI.sz;omega
  have h3:L[i]=false:=by simpa[Array.getD,hL]using hm.2.1
  have hcnt:(L.setIfInBounds i true).toList.count false<=fuel:=by
   have h5:(L.setIfInBounds i true).toList=L.toList.set i true:=by simp
   rw[h5,List.count_set (by simpa using hL)]
   have h6:L.toList[i]'(by simpa using hL)=false:=by simpa using h3
   rw[h6]
   have h7:0<L.toList.count false:=List.count_pos_iff.2 (by rw[<-h3];exact Array.mem_toList_iff.2 (Array.getElem_mem hL))
   simp
   simp at hc h7
   omega
  obtain⟨hs,hb,hol,hls,hcl,u,rfl,hu⟩:=hI
  obtain⟨o,ho⟩:∃o,ops[i]? =some o:=⟨_,Array.getElem?_eq_getElem hm.1⟩
  have hg:o.guard=none:=by
   have:=List.all_eq_true.1 hgd o (Array.mem_toList_iff.2 (Array.mem_of_getElem? ho))
   simpa using this
  have hdone:∀j,depOn ops i j=true->L.getD j false=true:=by
   intro j hj
   unfold depOn at hj
   rw[ho]at hj
   simp only[Option.map_some,Option.getD_some,List.any_eq_true,Bool.and_eq_true,beq_iff_eq]at hj
   obtain⟨e,he,hbd,rfl⟩:=hj
   exact hm.2.2 o ho e he hbd
  have hlt:∀j,depOn ops i j=true->j<i:=by
   intro j hj
   unfold depOn at hj
   rw[ho]at hj
   simp only[Option.map_some,Option.getD_some,List.any_eq_true,Bool.and_eq_true,beq_iff_eq]at hj
   obtain⟨e,he,hbd,rfl⟩:=hj
   have h1:=List.all_eq_true.1 hlow i (List.mem_range.2 hm.1)
   rw[ho]at h1
   simp only[Option.map_some,Option.getD_some,List.all_eq_true]at h1
   have h2:=h1 e he
   rw[hbd]at h2
   simpa using h2
  unfold wpOp
  rw[ho]
  simp only
  rw[if_pos (by simp[Region.wanted,hg])]
  by_cases hin:i=n
  ·subst hin
   have hbefore:∀j,j<i->L.getD j false=true:=fun j hj=>by
    have h1:=List.all_eq_true.1 hlast j (List.mem_range.2 hj)
    rw[Bool.or_eq_true]at h1
    rcases h1 with h1 | h1
    ·exact hdone j h1
    ·rw[List.any_eq_true]at h1
     obtain⟨k,_,h1⟩:=h1
     rw[Bool.and_eq_true]at h1
     exact hcl k j (hdone k h1.1) h1.2
   have hd:=hend o ho u W hb (fun j hj=>hu j hj (hbefore j hj))
   refine .inl (hd.wp ?_)
   intro v W' hQ
   have hallt:∀j,j<ops.size->(L.setIfInBounds i true).getD j false=true:=fun j hj=>by
    by_cases h:i=j
    ·subst h;exact set_at hL
    ·rw[set_ne h];exact hbefore j (by omega)
   have hr:=hall (L.setIfInBounds i true) hallt (by simp[hs])
   cases fuel with
   |zero=>exact⟨hr,hQ⟩
   |succ fuel=>exact⟨fun _=>hQ,fun j hj=>by rw[hr]at hj;cases hj⟩
  ·have hi2:i<n:=by have:=hm.1;omega
   have hd:=hstep i o hi2 ho u W hb (fun k hk=>hol i k hk (by simpa[Array.getD,hL]using h3)) (fun j hj=>hu j (by have:=hlt j hj;omega) (hdone j hj))
   refine .inl (hd.wp ?_)
   rintro v W' ⟨e1,hv,hb'⟩
   rw[e1]
   refine ih _ _ _ ⟨by simp[hs],hb.trans (hb'.more fun k hk=>⟨i,hk⟩), ?_,by rw[set_ne hin];exact hls, ?_,_,rfl, ?_⟩ hcnt
   ·intro j k hk hlj
    have hji:j≠i:=fun e=>by subst e;rw[set_at hL]at hlj;cases hlj
    rw[set_ne (Ne.symm hji)]at hlj
    have h1:=hown k ⟨j,hk⟩
    have h2:=hb.size
    rw[hb'.block k (by omega) (fun hk2=>hji (own_inj hnd hk hk2))]
    exact hol j k hk hlj
   ·intro j i' hj hd2
    by_cases h2:i=i'
    ·rw[<-h2];exact set_at hL
    ·rw[set_ne h2]
     by_cases hji:i=j
     ·subst hji;exact hdone i' hd2
     ·rw[set_ne hji]at hj;exact hcl j i' hj hd2
   ·intro j hj hlj
    by_cases hji:j=i
    ·subst hji;rw[if_pos rfl];exact hv
    ·rw[if_neg hji]
     rw[set_ne (Ne.symm hji)]at hlj
     exact(isAt Vs j).up _ _ _ _ (hu j hj hlj) hb' (fun k hk=>⟨hown k ⟨i,hk⟩,fun hk2=>hji (own_inj hnd hk2 hk)⟩)
theorem wp_region_last2{id:Nat}{a:Act}(n:Nat)(mk:(Nat->Value)->Act)(Vs:List (Is base))
  (hm:Tryz.prog.follows .mixedOrders=true) (hn:ops.size=n+1)
  (hlow:((List.range ops.size).all fun i=>((ops[i]?).map fun o=>o.after.toList.all fun e=> !Region.binds .any e||decide (e.on<i)).getD true)=true)
  (hlast:((List.range n).all fun i=>depOn ops n i||(List.range n).any fun j=>depOn ops n j&&depOn ops j i)=true)
  (hgd:ops.toList.all (fun o=>o.guard.isNone)=true) (L:List Nat) (hL:Vs.filterMap (·.own)=L) (hbw:base<=w.heap.size) (hown:∀k∈L,k<base) (hnd:L.Nodup)
  (ha:∃u,a=mk u)
  (hstep:∀i o,i<n->ops[i]? =some o->∀u W,Fr (fun k=>k∈L) w W->(∀k,(isAt Vs i).own=some k->W.heap[k]? =w.heap[k]?)->(∀j,depOn ops i j=true->(isAt Vs j).p (u j) W)->Step1 mk Vs i o u W)
  (hend:∀o,ops[n]? =some o->∀u W,Fr (fun k=>k∈L) w W->(∀i,i<n->(isAt Vs i).p (u i) W)->Does o (mk u) W (fun v W'=>Q .normal ((mk u).put o.dst v) W')):(Code.region id ops true).wp Tryz.prog Q a w:=by
 subst hL
 refine wp_region_any hm (wpAny_last2 (w:=w) mk Vs rfl hn hlow hlast hgd hbw (fun k hk=>hown k (ownS_mem hk)) hnd (fun i o hi ho u W hf=>hstep i o hi ho u W (hf.more fun _=>ownS_mem)) (fun o ho u W hf=>hend o ho u W (hf.more fun _=>ownS_mem)) _ _ _ _ ⟨by simp, .of_below (Below.refl w.heap.size w).drew,fun _ _ _ _=>rfl,by simp[Array.getD,hn],(fun j i hj=>by by_cases h:j<ops.size<;>simp[Array.getD,h]at hj), ?_⟩ ?_)
 ·obtain⟨u,rfl⟩:=ha
  exact⟨u,rfl,fun i hi h=>by have:i<ops.size:=by omega
                             simp[Array.getD,this]at h⟩
 ·simp
end
end Go.Proofs.YtjoiajmbfbjnnaaGreatDoor
