/- Part of this proof. -/
import Derived.Test.YtjoiajmbfbjnnaaGreatDoorV31
set_option maxRecDepth 100000
set_option maxHeartbeats 8000000
namespace Tp
open Nd En
theorem toks_ge{subs:List Sub}{m:Nat}(h:∀t∈subs,m<=t.tok):subs.length*m<=toks subs:=by
 induction subs with
 |nil=>simp
 |cons s l ih=>
  rw[toks_cons,List.length_cons,Nat.succ_mul]
  have:=ih fun t ht=>h t (List.mem_cons_of_mem _ ht)
  have:=h s List.mem_cons_self
  omega
theorem toks_td(subs:List Sub)(k:Nat):toks (subs.take k)+toks (subs.drop k)=toks subs:=by rw[<-toks_append,List.take_append_drop]
theorem es_td(subs:List Sub)(k:Nat):es_ (subs.take k)++es_ (subs.drop k)=es_ subs:=by rw[<-es_append,List.take_append_drop]
theorem ids_td(subs:List Sub)(k:Nat):ids_ (subs.take k)++ids_ (subs.drop k)=ids_ subs:=by rw[<-ids_append,List.take_append_drop]
theorem mem_sub_id{P:SubP}{v:Int->Option Node}{h:Nat}{lo hi:Option Str}{subs:List Sub}{keys:List Str}(hch:Chain (Tr v h) lo hi subs keys)(_:P=P){t:Sub}(ht:t∈subs):t.id∈ids_ subs:=by
 obtain⟨l,hh,h1⟩:=chain_all hch t ht
 exact mem_ids ht (tr_id h1)
section
variable {room:Int}{disk:Disk}{used:List Run}{σ σ1:Pst}
theorem kids_range(hap:ApS room used σ){h:Nat}{v:Int->Option Node}{lo hi:Option Str}{subs:List Sub}{keys:List Str}(hch:Chain (Tr v h) lo hi subs keys)(huse:∀x∈ids_ subs,Use used σ x):∀i∈subs.map (·.id),2<=i/\i<=4294967295:=fun i hi'=>by
 obtain⟨t,ht,rfl⟩:=List.mem_map.1 hi'
 have:=use_range hap (huse _ (mem_sub_id (P:=Tr v h) hch rfl ht))
 have:=hap.pg
 omega
theorem chain_view{v v':Int->Option Node}{h:Nat}{lo hi:Option Str}{subs:List Sub}{keys:List Str}(hv:∀x∈ids_ subs,v' x=v x)(hch:Chain (Tr v h) lo hi subs keys):Chain (Tr v' h) lo hi subs keys:=
 chain_congr (fun _ hs _ _ ht=>tr_congr (fun x hx=>hv x (mem_ids hs hx)) ht) hch
theorem store_inner(hap:ApS room used σ)(id:Int){h:Nat}{subs:List Sub}{keys:List Str}{lo hi:Option Str}{tok:Nat}{big:Prop}(hch:Chain (Tr (σ.view disk) h) lo hi subs keys)(hk:∀k∈keys,may k ⟨#[]⟩=true)
  (huse:∀x∈ids_ subs,Use used σ x) (hnd:(ids_ subs).Nodup) (hid:id ∉ ids_ subs) (hs:ksize keys<=257) (ht:toks subs<=tok) (h6:∀t∈subs,6 ^ h<=t.tok) (hb:big->6 ^ (h+1)<=tok):
  Res room disk used σ (fun x=>x=id\/x∈ids_ subs) 2 (pStore room (fuelOf (mkInner (subs.map (·.id)) keys)) σ id (mkInner (subs.map (·.id)) keys)) (fun p σ' ids=>PartsAt (σ'.view disk) (h+1) lo hi p ids (es_ subs) tok big):=by
 have G:=tr_good (σ.view disk) h
 have hlen:=chain_len hch
 have hkr:=kids_range hap hch huse
 have hks:=(chain_range G hch).2.2.2.1
 have hml:(subs.map (·.id)).length=subs.length:=List.length_map _
 have hne:(mkInner (subs.map (·.id)) keys).ents.length+(mkInner (subs.map (·.id)) keys).kids.length≠0:=by
  show 0+(subs.map (·.id)).length≠0
  omega
 have hfu:fuelOf (mkInner (subs.map (·.id)) keys)=subs.length+1:=by show 0+(subs.map (·.id)).length+1=_;omega
 rw[hfu]
 by_cases hsz:240<4+ksize keys
 ·obtain⟨k,key,k5,k7,hkey,hc,f1,f2⟩:=inner_cut (by rw[hml];exact hlen) hkr hk hks hsz hs
  rw[hml]at k7
  obtain⟨f,hf⟩:∃f,subs.length+1=f+2:=⟨subs.length-1,by omega⟩
  rw[hf]
  rw[<-List.map_take, <-List.map_drop]at hc
  rw[<-List.map_take]at f1
  rw[<-List.map_drop]at f2
  have hto:=store_two (disk:=disk) hap f id hne hc f1 f2 (by show 0+((subs.take (k+1)).map (·.id)).length≠0;rw[List.length_map,List.length_take];omega) (by show 0+((subs.drop (k+1)).map (·.id)).length≠0;rw[List.length_map,List.length_drop];omega)
  obtain⟨key',hkey',c1,c2⟩:=chain_cut (i:=k) hch (by omega)
  have e:key'=key:=Option.some.inj (hkey'.symm.trans hkey)
  subst e
  rcases hto with⟨p,ids,e1,s1,n1,l1,pa,pb,rfl,rfl,va,vb⟩ | ⟨e1,s1,l1⟩
  ·have hfr:=s1.frame hap (C:=fun x=>x∈ids_ subs) huse
   have hkeep:∀x∈ids_ subs,(pStore room (f+2) σ id (mkInner (subs.map (·.id)) keys)).2.view disk x=σ.view disk x:=fun x hx=>s1.keep x (fun e=>hid (e ▸ hx)) (huse x hx)
   have hnew:∀x∈ids_ subs,x≠pa/\x≠pb:=fun x hx=>by
    have:=s1.apart (huse x hx) (fun e=>hid (e ▸ hx))
    simp only[List.mem_cons,List.not_mem_nil,or_false,not_or]at this
    exact this
   generalize pStore room (f+2) σ id (mkInner (subs.map (·.id)) keys)=r at*
   have hpab:pa≠pb:=by simpa using n1
   have htd:=toks_td subs (k+1)
   have hta:=toks_ge (subs:=subs.take (k+1)) (m:=6 ^ h) (fun t ht=>h6 t (List.mem_of_mem_take ht))
   have htb:=toks_ge (subs:=subs.drop (k+1)) (m:=6 ^ h) (fun t ht=>h6 t (List.mem_of_mem_drop ht))
   rw[List.length_take]at hta
   rw[List.length_drop]at htb
   have hm6:6*6 ^ h=6 ^ (h+1):=by rw[Nat.pow_succ,Nat.mul_comm]
   have ha6:6 ^ (h+1)<=toks (subs.take (k+1)):=by
    rw[<-hm6];exact Nat.le_trans (Nat.mul_le_mul_right _ (by omega)) hta
   have hb6:6 ^ (h+1)<=toks (subs.drop (k+1)):=by
    rw[<-hm6];exact Nat.le_trans (Nat.mul_le_mul_right _ (by omega)) htb
   have hidtd:=ids_td subs (k+1)
   have hmem:∀x,x∈ids_ subs ↔ x∈ids_ (subs.take (k+1))\/x∈ids_ (subs.drop (k+1)):=fun x=>by rw[<-hidtd,List.mem_append]
   have hnd2:=hnd
   rw[<-hidtd,List.nodup_append]at hnd2
   refine .inl ⟨_,pa::ids_ (subs.take (k+1))++pb::ids_ (subs.drop (k+1)),e1,hfr.congr (fun _=>Iff.rfl) (fun x=> ?_), ?_,l1, .inr ⟨[⟨pa,pa::ids_ (subs.take (k+1)),es_ (subs.take (k+1)),tok-toks (subs.drop (k+1))⟩,⟨pb,pb::ids_ (subs.drop (k+1)),es_ (subs.drop (k+1)),toks (subs.drop (k+1))⟩],rfl,(by show _=(pa::ids_ (subs.take (k+1)))++((pb::ids_ (subs.drop (k+1)))++ []);rw[List.append_nil]),(by show es_ subs=es_ (subs.take (k+1))++(es_ (subs.drop (k+1))++ []);rw[List.append_nil,es_td]),(by simp only[toks_cons];show _+(_+0)<=tok;omega),chain_cons.2 ⟨⟨subs.take (k+1),keys.take k,va,f1,rfl,rfl,by show _<=tok-_;omega,fun t ht=>h6 t (List.mem_of_mem_take ht), ?_⟩,⟨subs.drop (k+1),keys.drop (k+1),vb,f2,rfl,rfl,Nat.le_refl _,fun t ht=>h6 t (List.mem_of_mem_drop ht), ?_⟩⟩,fun y hy=> ?_,by simp,fun _ t ht=> ?_⟩⟩
   ·simp only[List.mem_append,List.mem_cons,List.not_mem_nil,or_false,hmem]
    constructor
    ·rintro((h1 | h1) | ⟨h1 | h1,_⟩)
     ·exact .inl (.inl h1)
     ·exact .inr (.inl h1)
     ·exact .inl (.inr h1)
     ·exact .inr (.inr h1)
    ·rintro((h1 | h1) | (h1 | h1))
     ·exact .inl (.inl h1)
     ·exact .inr ⟨.inl h1,fun e=>hid (e ▸ (hmem x).2 (.inl h1))⟩
     ·exact .inl (.inr h1)
     ·exact .inr ⟨.inr h1,fun e=>hid (e ▸ (hmem x).2 (.inr h1))⟩
   ·rw[List.nodup_append,List.nodup_cons,List.nodup_cons]
    refine⟨⟨fun hx=>(hnew pa ((hmem pa).2 (.inl hx))).1 rfl,hnd2.1⟩,⟨fun hx=>(hnew pb ((hmem pb).2 (.inr hx))).2 rfl,hnd2.2.1⟩,fun x hx y hy=> ?_⟩
    rcases List.mem_cons.1 hx with rfl | hx<;>rcases List.mem_cons.1 hy with rfl | hy
    ·exact hpab
    ·exact fun e=>(hnew y ((hmem y).2 (.inr hy))).1 e.symm
    ·exact(hnew x ((hmem x).2 (.inl hx))).2
    ·exact hnd2.2.2 x hx y hy
   ·exact chain_view (fun x hx=>hkeep x ((hmem x).2 (.inl hx))) c1
   ·exact chain_view (fun x hx=>hkeep x ((hmem x).2 (.inr hx))) c2
   ·rw[List.mem_singleton]at hy;subst hy
    exact hk _ (List.mem_of_getElem? hkey')
   ·simp only[List.mem_cons,List.not_mem_nil,or_false]at ht
    rcases ht with rfl | rfl
    ·show _<=tok-_
     omega
    ·exact hb6
  ·exact .inr ⟨e1,s1,l1⟩
 ·have hfit:fits (mkInner (subs.map (·.id)) keys)=true:=fits_iff.2 ⟨mkInner_right (by rw[hml];exact hlen) hkr hk hks,by show 4+ksize keys<=240;omega⟩
  have ho:=store_one (disk:=disk) hap subs.length id hne hfit
  rcases ho with⟨p,ids,e1,s1,n1,l1,pg,rfl,rfl,v1⟩ | ⟨e1,s1,l1⟩
  ·have hfr:=s1.frame hap (C:=fun x=>x∈ids_ subs) huse
   have hkeep:∀x∈ids_ subs,(pStore room (subs.length+1) σ id (mkInner (subs.map (·.id)) keys)).2.view disk x=σ.view disk x:=fun x hx=>s1.keep x (fun e=>hid (e ▸ hx)) (huse x hx)
   have hnew:∀x∈ids_ subs,x≠pg:=fun x hx=>by
    have:=s1.apart (huse x hx) (fun e=>hid (e ▸ hx))
    simpa using this
   generalize pStore room (subs.length+1) σ id (mkInner (subs.map (·.id)) keys)=r at*
   refine .inl ⟨_,pg::ids_ subs,e1,hfr.congr (fun _=>Iff.rfl) (fun x=> ?_), ?_,by omega, .inr ⟨[⟨pg,pg::ids_ subs,es_ subs,tok⟩],rfl,by simp[ids_],by simp[es_],by simp[toks],⟨subs,keys,v1,hfit,rfl,rfl,ht,h6,chain_view hkeep hch⟩,fun y hy=>(by cases hy),by simp,fun hbb t ht=> ?_⟩⟩
   ·simp only[List.mem_cons,List.not_mem_nil,or_false]
    constructor
    ·rintro(h1 | ⟨h1,_⟩)
     ·exact .inl h1
     ·exact .inr h1
    ·rintro(h1 | h1)
     ·exact .inl h1
     ·exact .inr ⟨h1,fun e=>hid (e ▸ h1)⟩
   ·rw[List.nodup_cons];exact⟨fun hx=>hnew pg hx rfl,hnd⟩
   ·rw[List.mem_singleton]at ht;subst ht
    rcases hbb with h1 | h1
    ·exact hb h1
    ·simp at h1
  ·exact .inr ⟨e1,s1,by omega⟩
end
theorem tr_ids{v:Int->Option Node}{h:Nat}{lo hi:Option Str}{s:Sub}(hs:Tr v h lo hi s):s.ids=s.id::s.ids.tail:=by
 cases h with
 |zero=>rw[hs.2.1];rfl
 |succ h=>
  obtain⟨subs,keys,a,b,c,_⟩:=hs
  rw[c];rfl
theorem tr_node{v:Int->Option Node}{h:Nat}{lo hi:Option Str}{s:Sub}(hs:Tr v h lo hi s):∃n,v s.id=some n/\fits n=true/\n.leaf=decide (h=0):=by
 cases h with
 |zero=>exact⟨_,hs.1,hs.2.2.1,rfl⟩
 |succ h=>
  obtain⟨subs,keys,a,b,c,_⟩:=hs
  exact⟨_,a,b,rfl⟩
theorem tr_join{v v':Int->Option Node}{h:Nat}{l hh:Option Str}{k:Str}{a b:Sub}{na nb:Node}{page:Int}(ha:Tr v h l (some k) a)(hb:Tr v h (some k) hh b)(hna:v a.id=some na)(hnb:v b.id=some nb)
  (hf:fits (join na k nb)=true) (hp:v' page=some (join na k nb)) (hv:∀x∈a.ids.tail++b.ids.tail,v' x=v x):Tr v' h l hh ⟨page,page::(a.ids.tail++b.ids.tail),a.es++b.es,a.tok+b.tok⟩:=by
 have G:=tr_good v h
 have hch:Chain (Tr v h) l hh [a,b] [k]:=chain_cons.2 ⟨ha,hb⟩
 have hrg:=chain_range G hch
 cases h with
 |zero=>
  obtain⟨a1,a2,a3,a4,a5,a6⟩:=ha
  obtain⟨b1,b2,b3,b4,b5,b6⟩:=hb
  rw[a1]at hna
  rw[b1]at hnb
  injection hna with hna
  injection hnb with hnb
  subst hna hnb
  have hj:join (mkLeaf a.es) k (mkLeaf b.es)=mkLeaf (a.es++b.es):=rfl
  rw[hj]at hf hp
  refine⟨hp,by rw[a2,b2];rfl,hf, ?_, ?_,by show(a.es++b.es).length<=a.tok+b.tok;rw[List.length_append];omega⟩
  ·show a.es++b.es≠ []
   simp[a4]
  ·have:=hrg.2.1
   simpa[es_]using this
 |succ h=>
  obtain⟨sa,ka,a1,a2,a3,a4,a5,a6,a7⟩:=ha
  obtain⟨sb,kb,b1,b2,b3,b4,b5,b6,b7⟩:=hb
  rw[a1]at hna
  rw[b1]at hnb
  injection hna with hna
  injection hnb with hnb
  subst hna hnb
  have hj:join (mkInner (sa.map (·.id)) ka) k (mkInner (sb.map (·.id)) kb)=mkInner ((sa++sb).map (·.id)) (ka++k::kb):=by
   unfold join mkInner
   simp
  rw[hj]at hf hp
  rw[a3,b3]at hv
  simp only[List.tail_cons]at hv
  have va:∀x∈ids_ sa,v' x=v x:=fun x hx=>hv x (List.mem_append_left _ hx)
  have vb:∀x∈ids_ sb,v' x=v x:=fun x hx=>hv x (List.mem_append_right _ hx)
  refine⟨sa++sb,ka++k::kb,hp,hf,by rw[a3,b3,ids_append];rfl,by rw[es_append];show a.es++b.es=_;rw[a4,b4],by rw[toks_append];show _<=a.tok+b.tok;omega,fun t ht=> ?_,chain_join (chain_view va a7) (chain_view vb b7)⟩
  rcases List.mem_append.1 ht with ht | ht
  ·exact a6 t ht
  ·exact b6 t ht
section
variable {room:Int}{disk:Disk}{used:List Run}{σ:Pst}
theorem step_same(hap:ApS room used σ){C:Int->Prop}(hC:∀x,C x->Use used σ x):Step room disk used σ C σ C:=
 ((Step.refl_ (disk:=disk) hap).frame hap hC).congr (fun x=>by simp) (fun x=>by simp)
theorem sib_lt{n:Node}{i:Nat}(hi:i<n.kids.length)(h2:1<n.kids.length):sib n i+1<n.kids.length:=by
 unfold sib
 split<;>omega
def FillQ(disk:Disk)(h:Nat)(lo hi:Option Str)(subs:List Sub)(keys:List Str)(n':Node)(σ':Pst)(ids:List Int):Prop:=
 ∃subs' keys',n'=mkInner (subs'.map (·.id)) keys'/\ids=ids_ subs'/\es_ subs'=es_ subs/\toks subs'=toks subs/\Chain (Tr (σ'.view disk) h) lo hi subs' keys'/\(∀k∈keys',k∈keys)/\ksize keys'<=ksize keys/\(∀t∈subs',6 ^ h<=t.tok)
theorem fill_ok(hap:ApS room used σ){h:Nat}{subs:List Sub}{keys:List Str}{lo hi:Option Str}(hch:Chain (Tr (σ.view disk) h) lo hi subs keys)
  (huse:∀x∈ids_ subs,Use used σ x) (hnd:(ids_ subs).Nodup) {i d:Nat} (hi':i<subs.length) (h2:1<subs.length) (hd:d<24) (h6:∀t∈subs,6 ^ h<=t.tok):
  Res room disk used σ (fun x=>x∈ids_ subs) 1 (pFill room disk σ (mkInner (subs.map (·.id)) keys) i d) (FillQ disk h lo hi subs keys):=by
 have hml:(mkInner (subs.map (·.id)) keys).kids.length=subs.length:=List.length_map _
 have same:Res room disk used σ (fun x=>x∈ids_ subs) 1 (.ok (mkInner (subs.map (·.id)) keys),σ) (FillQ disk h lo hi subs keys):=
  .inl ⟨_,ids_ subs,rfl,step_same hap huse,hnd,Nat.le_succ _,subs,keys,rfl,rfl,rfl,rfl,hch,fun _ h=>h,Nat.le_refl _,h6⟩
 obtain⟨j,hj⟩:∃j,j=sib (mkInner (subs.map (·.id)) keys) i:=⟨_,rfl⟩
 have hj1:j+1<subs.length:=by rw[hj, <-hml];exact sib_lt (by rw[hml];exact hi') (by rw[hml];exact h2)
 unfold pFill
 rw[if_neg (by omega), <-hj]
 have hkid:∀m (hm:m<subs.length),(mkInner (subs.map (·.id)) keys).kids.getD m 0=(subs[m]).id:=fun m hm=>by
  show(subs.map (·.id)).getD m 0=_
  rw[List.getD_eq_getElem?_getD,List.getElem?_map,List.getElem?_eq_getElem hm];rfl
 rw[hkid i hi',hkid j (by omega),hkid (j+1) hj1]
 obtain⟨l0,h0,t0⟩:=chain_all hch _ (List.getElem_mem hi')
 obtain⟨nk,ek,_,_⟩:=tr_node t0
 rw[ek]
 simp only
 by_cases hsz:80<=size nk
 ·rw[if_pos hsz];exact same
 rw[if_neg hsz]
 obtain⟨l,hh,k,hkey,ta,tb,hrep⟩:=chain_two (tr_good _ _) hch hj1
 obtain⟨na,ea,fa,la⟩:=tr_node ta
 obtain⟨nb,eb,fb,lb⟩:=tr_node tb
 rw[ea]
 simp only
 rw[eb]
 simp only
 have hkd:(mkInner (subs.map (·.id)) keys).keys.getD j ⟨#[]⟩=k:=by
  show keys.getD j ⟨#[]⟩=k
  rw[List.getD_eq_getElem?_getD,hkey];rfl
 rw[hkd]
 by_cases hc:(na.leaf != nb.leaf)=true\/fits (join na k nb)=false
 ·rw[if_pos hc];exact same
 rw[if_neg hc]
 have hf:fits (join na k nb)=true:=by
  cases hff:fits (join na k nb)with
  |true=>rfl
  |false=>exact absurd (.inr hff) hc
 have hja:subs[j]'(by omega)∈subs:=List.getElem_mem _
 have hjb:subs[j+1]∈subs:=List.getElem_mem _
 have hsp:subs=subs.take j++(subs[j]'(by omega)::subs[j+1]::subs.drop (j+2)):=by
  rw[<-List.drop_eq_getElem_cons, <-List.drop_eq_getElem_cons,List.take_append_drop]
 have ia:=tr_ids ta
 have ib:=tr_ids tb
 have hidl:ids_ subs=ids_ (subs.take j)++(((subs[j]'(by omega)).id::(subs[j]'(by omega)).ids.tail)++((subs[j+1].id::subs[j+1].ids.tail)++ids_ (subs.drop (j+2)))):=by
  conv=>lhs;rw[hsp]
  rw[ids_append,ids_cons,ids_cons, <-ia, <-ib]
 have hesl:es_ subs=es_ (subs.take j)++((subs[j]'(by omega)).es++(subs[j+1].es++es_ (subs.drop (j+2)))):=by
  conv=>lhs;rw[hsp]
  rw[es_append,es_cons,es_cons]
 have htkl:toks subs=toks (subs.take j)+((subs[j]'(by omega)).tok+(subs[j+1].tok+toks (subs.drop (j+2)))):=by
  conv=>lhs;rw[hsp]
  rw[toks_append,toks_cons,toks_cons]
 have ma:(subs[j]'(by omega)).id∈ids_ subs:=mem_ids hja (tr_id ta)
 have mb:subs[j+1].id∈ids_ subs:=mem_ids hjb (tr_id tb)
 have ua:=huse _ ma
 have ub:=huse _ mb
 have h6a:=h6 _ hja
 have hmt:∀s,(s∈subs.take j\/s∈subs.drop (j+2))->s∈subs:=fun s hs=>by
  rcases hs with hs | hs
  ·exact List.mem_of_mem_take hs
  ·exact List.mem_of_mem_drop hs
 generalize subs[j]'(by omega)=a at*
 generalize subs[j+1]=b at*
 have hnd2:=hnd
 rw[hidl,List.nodup_append,List.nodup_append,List.nodup_append,List.nodup_cons,List.nodup_cons]at hnd2
 obtain⟨nd1,⟨⟨na1,na2⟩,⟨⟨nb1,nb2⟩,nd3,nb4⟩,nab⟩,nd4⟩:=hnd2
 have hab:a.id≠b.id:=nab a.id List.mem_cons_self b.id (List.mem_append_left _ List.mem_cons_self)
 cases hs:pSave room σ a.id (join na k nb)with
 |mk r σ1=>
  cases r with
  |error e=>
   obtain⟨rfl,rfl,g3⟩:=save_err hap hf hs
   exact .inr ⟨rfl,hap,by omega⟩
  |ok page=>
   obtain⟨s1,v1,_,l1⟩:=save_ok (disk:=disk) hap hs
   obtain⟨s2,l2⟩:=drop_step (disk:=disk) s1.ap b.id
   have hpb:page≠b.id:=fun e=>s1.apart ub (fun h=>hab h.symm) e.symm
   have hst:=((s1.comp s2).frame hap (C:=fun x=>x∈ids_ subs) huse).congr (A':=fun x=>x∈ids_ subs) (fun x=>by
    constructor
    ·rintro((h1 | ⟨h1,_⟩) | h1)
     ·exact h1 ▸ ma
     ·exact h1 ▸ mb
     ·exact h1
    ·exact .inr) (fun _=>Iff.rfl)
   have hkeep:∀x,x∈ids_ subs->x≠a.id->x≠b.id->(pDrop σ1 b.id).view disk x=σ.view disk x:=fun x hx h1 h2=>by
    rw[s2.keep x h2 (s1.use (huse x hx) h1),s1.keep x h1 (huse x hx)]
   have hpn:∀x∈ids_ subs,x≠a.id->x≠page:=fun x hx h1=>s1.apart (huse x hx) h1
   have vp:(pDrop σ1 b.id).view disk page=some (join na k nb):=by rw[s2.keep page hpb (s1.got rfl)];exact v1
   have rest:∀x,(x∈ids_ (subs.take j)\/x∈a.ids.tail\/x∈b.ids.tail\/x∈ids_ (subs.drop (j+2))) ↔ (x∈ids_ subs/\x≠a.id/\x≠b.id):=fun x=>by
    rw[hidl]
    simp only[List.mem_append,List.mem_cons]
    constructor
    ·rintro(h1 | h1 | h1 | h1)
     ·exact⟨.inl h1,nd4 x h1 _ (List.mem_append_left _ List.mem_cons_self),nd4 x h1 _ (List.mem_append_right _ (List.mem_append_left _ List.mem_cons_self))⟩
     ·exact⟨.inr (.inl (.inr h1)),fun e=>na1 (e ▸ h1),nab x (List.mem_cons_of_mem _ h1) _ (List.mem_append_left _ List.mem_cons_self)⟩
     ·exact⟨.inr (.inr (.inl (.inr h1))),fun e=>nab a.id List.mem_cons_self x (List.mem_append_left _ (List.mem_cons_of_mem _ h1)) e.symm,fun e=>nb1 (e ▸ h1)⟩
     ·exact⟨.inr (.inr (.inr h1)),fun e=>nab a.id List.mem_cons_self x (List.mem_append_right _ h1) e.symm,fun e=>nb4 b.id List.mem_cons_self x h1 e.symm⟩
    ·rintro⟨h1,h2,h3⟩
     rcases h1 with h1 | (h1 | h1) | (h1 | h1) | h1
     ·exact .inl h1
     ·exact absurd h1 h2
     ·exact .inr (.inl h1)
     ·exact absurd h1 h3
     ·exact .inr (.inr (.inl h1))
     ·exact .inr (.inr (.inr h1))
   have hnew:Tr ((pDrop σ1 b.id).view disk) h l hh ⟨page,page::(a.ids.tail++b.ids.tail),a.es++b.es,a.tok+b.tok⟩:=
    tr_join ta tb ea eb hf vp (fun x hx=>by
     have hr:=(rest x).1 (by
      rcases List.mem_append.1 hx with hx | hx
      ·exact .inr (.inl hx)
      ·exact .inr (.inr (.inl hx)))
     exact hkeep x hr.1 hr.2.1 hr.2.2)
   have hidn:ids_ (subs.take j++ [⟨page,page::(a.ids.tail++b.ids.tail),a.es++b.es,a.tok+b.tok⟩]++subs.drop (j+2))=ids_ (subs.take j)++((page::(a.ids.tail++b.ids.tail))++ids_ (subs.drop (j+2))):=by
    rw[ids_append,ids_append,List.append_assoc]
    simp[ids_]
   have hpr:∀x,(x∈ids_ (subs.take j)\/x∈a.ids.tail\/x∈b.ids.tail\/x∈ids_ (subs.drop (j+2)))->x≠page:=fun x hx=>by
    have hr:=(rest x).1 hx
    exact hpn x hr.1 hr.2.1
   refine .inl ⟨_,ids_ (subs.take j++ [⟨page,page::(a.ids.tail++b.ids.tail),a.es++b.es,a.tok+b.tok⟩]++subs.drop (j+2)),rfl,hst.congr (fun _=>Iff.rfl) (fun x=> ?_), ?_,by show(pDrop σ1 b.id).mine.length<=_;omega,
    subs.take j++ [⟨page,page::(a.ids.tail++b.ids.tail),a.es++b.es,a.tok+b.tok⟩]++subs.drop (j+2),keys.take j++keys.drop (j+1), ?_,rfl, ?_, ?_,hrep _ _ (fun s hs l' h' ht=>tr_congr (fun x hx=> ?_) ht) hnew, ?_, ?_, ?_⟩
   ·rw[hidn]
    have hr:=rest x
    simp only[List.mem_append,List.mem_cons]
    constructor
    ·rintro((⟨h1,_⟩ | h1) | ⟨h1,h2⟩)
     ·exact .inr (.inl (.inl h1))
     ·exact h1.elim
     ·have h3:=hr.2 ⟨h1,fun e=>h2 (.inl e),fun e=>h2 (.inr ⟨e,fun e2=>hpb (e2.symm.trans e)⟩)⟩
      rcases h3 with h3 | h3 | h3 | h3
      ·exact .inl h3
      ·exact .inr (.inl (.inr (.inl h3)))
      ·exact .inr (.inl (.inr (.inr h3)))
      ·exact .inr (.inr h3)
    ·intro h1
     have h2:x=page\/(x∈ids_ (subs.take j)\/x∈a.ids.tail\/x∈b.ids.tail\/x∈ids_ (subs.drop (j+2))):=by
      rcases h1 with h1 | (h1 | h1 | h1) | h1
      ·exact .inr (.inl h1)
      ·exact .inl h1
      ·exact .inr (.inr (.inl h1))
      ·exact .inr (.inr (.inr (.inl h1)))
      ·exact .inr (.inr (.inr (.inr h1)))
     rcases h2 with h2 | h2
     ·exact .inl (.inl ⟨h2,fun e=>hpb (h2.symm.trans e)⟩)
     ·have h3:=hr.1 h2
      exact .inr ⟨h3.1,fun e=>by
       rcases e with e | ⟨e,_⟩
       ·exact h3.2.1 e
       ·exact h3.2.2 e⟩
   ·rw[hidn,List.nodup_append,List.nodup_append,List.nodup_cons,List.nodup_append]
    refine⟨nd1,⟨⟨fun hx=> ?_,na2,nb2,fun x hx y hy=>nab x (List.mem_cons_of_mem _ hx) y (List.mem_append_left _ (List.mem_cons_of_mem _ hy))⟩,nd3,fun x hx y hy=> ?_⟩,fun x hx y hy=> ?_⟩
    ·rcases List.mem_append.1 hx with hx | hx
     ·exact hpr page (.inr (.inl hx)) rfl
     ·exact hpr page (.inr (.inr (.inl hx))) rfl
    ·rcases List.mem_cons.1 hx with rfl | hx
     ·exact fun e=>hpr y (.inr (.inr (.inr hy))) e.symm
     ·rcases List.mem_append.1 hx with hx | hx
      ·exact nab x (List.mem_cons_of_mem _ hx) y (List.mem_append_right _ hy)
      ·exact nb4 x (List.mem_cons_of_mem _ hx) y hy
    ·rcases List.mem_append.1 hy with hy | hy
     ·rcases List.mem_cons.1 hy with rfl | hy
      ·exact hpr x (.inl hx)
      ·rcases List.mem_append.1 hy with hy | hy
       ·exact nd4 x hx y (List.mem_append_left _ (List.mem_cons_of_mem _ hy))
       ·exact nd4 x hx y (List.mem_append_right _ (List.mem_append_left _ (List.mem_cons_of_mem _ hy)))
     ·exact nd4 x hx y (List.mem_append_right _ (List.mem_append_right _ hy))
   ·unfold swap
    have hkl:=chain_len hch
    rw[if_neg (by
     rw[hml]
     show ¬ (false=true\/subs.length<j+2\/j+2<=j\/(0:Nat)≠ [page].length-1)
     simp;omega)]
    show mkInner ((subs.map (·.id)).take j++ [page]++(subs.map (·.id)).drop (j+2)) (keys.take (if([page]:List Int).length=0/\0<j then j-1 else j)++ []++keys.drop (if([page]:List Int).length=0/\j=0 then min (j+2) keys.length else j+2-1))=_
    rw[if_neg (by simp),if_neg (by simp),List.append_nil,List.map_append,List.map_append,List.map_take,List.map_drop]
    rfl
   ·rw[es_append,es_append,hesl,List.append_assoc]
    simp[es_]
   ·rw[toks_append,toks_append,htkl]
    simp[toks];omega
   ·have hin:=hmt s hs
    have hx2:x∈ids_ (subs.take j)\/x∈ids_ (subs.drop (j+2)):=by
     rcases hs with hs | hs
     ·exact .inl (mem_ids hs hx)
     ·exact .inr (mem_ids hs hx)
    have hr:=(rest x).1 (by
     rcases hx2 with h1 | h1
     ·exact .inl h1
     ·exact .inr (.inr (.inr h1)))
    exact hkeep x hr.1 hr.2.1 hr.2.2
   ·intro y hy
    rcases List.mem_append.1 hy with hy | hy
    ·exact List.mem_of_mem_take hy
    ·exact List.mem_of_mem_drop hy
   ·rw[ksize_append]
    have e1:ksize (keys.take j)+ksize (keys.drop j)=ksize keys:=by rw[<-ksize_append,List.take_append_drop]
    have e2:ksize (keys.drop (j+1))<=ksize (keys.drop j):=by
     have hjk:j<keys.length:=(List.getElem?_eq_some_iff.1 hkey).1
     rw[List.drop_eq_getElem_cons hjk,ksize_cons];omega
    omega
   ·intro t ht
    rcases List.mem_append.1 ht with ht | ht
    ·rcases List.mem_append.1 ht with ht | ht
     ·exact h6 t (List.mem_of_mem_take ht)
     ·rw[List.mem_singleton]at ht;subst ht
      show _<=a.tok+b.tok
      omega
    ·exact h6 t (List.mem_of_mem_drop ht)
end
structure GOp(g:List En.Ent->List En.Ent)(key:Str):Prop where
 right:∀l,En.right l=true->En.right (g l)=true
 loc:∀a l b,En.right (a++(l++b))=true->(∀x∈a,lt x.1 key=true)->(∀x∈b,lt key x.1=true)->g (a++(l++b))=a++(g l++b)
 inn:∀l x,x∈g l->x∈l\/x.1=key
 size:∀l,esize (g l)<=esize l+58
section
variable {room:Int}{disk:Disk}{used:List Run}{σ σ1 σ2:Pst}
theorem Res.mono{α:Type}{A A':Int->Prop}{N N':Nat}{r:Except Int α × Pst}{Q Q':α->Pst->List Int->Prop}(h:Res room disk used σ A N r Q)(hA:∀x,A x ↔ A' x)(hN:N<=N')(hQ:∀a σ' ids,Q a σ' ids->Q' a σ' ids):Res room disk used σ A' N' r Q':=by
 rcases h with⟨a,ids,e1,e2,e3,e4,e5⟩ | ⟨e1,e2,e3⟩
 ·exact .inl ⟨a,ids,e1,e2.congr hA (fun _=>Iff.rfl),e3,by omega,hQ _ _ _ e5⟩
 ·exact .inr ⟨e1,e2,by omega⟩
theorem Step.then_{A B1:Int->Prop}{C:Int->Prop}(h1:Step room disk used σ A σ1 C)(h2:Step room disk used σ1 C σ2 B1):Step room disk used σ A σ2 B1:=
 (h1.comp h2).congr (fun _=>⟨fun h=>h.elim id fun h=>absurd h.1 h.2, .inl⟩) (fun _=>⟨fun h=>h.elim (fun h=>absurd h.1 h.2) id, .inr⟩)
theorem Step.then2{A B1:Int->Prop}{C:Int->Prop}{id:Int}(h1:Step room disk used σ A σ1 C)(h2:Step room disk used σ1 (fun x=>x=id\/C x) σ2 B1)(hC:¬C id):Step room disk used σ (fun x=>x=id\/A x) σ2 B1:=
 (h1.comp h2).congr (fun x=>by
  constructor
  ·rintro(h | ⟨h | h,h3⟩)
   ·exact .inr h
   ·exact .inl h
   ·exact absurd h h3
  ·rintro(h | h)
   ·exact .inr ⟨.inl h,h ▸ hC⟩
   ·exact .inl h) (fun x=>by
  constructor
  ·rintro(⟨h,h2⟩ | h)
   ·exact absurd (.inr h) h2
   ·exact h
  ·exact .inr)
theorem finish_ok{A:Int->Prop}{N:Nat}{id:Int}{h:Nat}{subs:List Sub}{keys:List Str}{lo hi:Option Str}{tok i d:Nat}{big:Prop}{p:Part}
  (s1:Step room disk used σ A σ1 (fun x=>x∈ids_ subs)) (hl:σ1.mine.length<=σ.mine.length+N) (hid:Use used σ id) (hidA:¬A id)
  (hch:Chain (Tr (σ1.view disk) h) lo hi subs keys) (hk:∀k∈keys,may k ⟨#[]⟩=true) (hnd:(ids_ subs).Nodup) (hs:ksize keys<=257) (ht:toks subs<=tok) (h6:∀t∈subs,6 ^ h<=t.tok) (hb:big->6 ^ (h+1)<=tok)
  (hi':p.1.length=1->i<subs.length) (hd:d<24):
  Res room disk used σ (fun x=>x=id\/A x) (N+3) (match pFillIf room disk p σ1 (mkInner (subs.map (·.id)) keys) i d with
   |(.error e,σ2)=>(.error e,σ2)
   |(.ok n2,σ2)=>pStore room (fuelOf n2) σ2 id n2) (fun p σ' ids=>PartsAt (σ'.view disk) (h+1) lo hi p ids (es_ subs) tok big):=by
 have huse:∀x∈ids_ subs,Use used σ1 x:=fun x hx=>s1.got hx
 have hfill:Res room disk used σ1 (fun x=>x∈ids_ subs) 1 (pFillIf room disk p σ1 (mkInner (subs.map (·.id)) keys) i d) (FillQ disk h lo hi subs keys):=by
  unfold pFillIf
  by_cases hc:p.1.length=1/\1<(mkInner (subs.map (·.id)) keys).kids.length
  ·rw[if_pos hc]
   have h2:1<subs.length:=by have:=hc.2;rw[show(mkInner (subs.map (·.id)) keys).kids.length=subs.length from List.length_map _]at this;exact this
   exact fill_ok s1.ap hch huse hnd (hi' hc.1) h2 hd h6
  ·rw[if_neg hc]
   exact .inl ⟨_,ids_ subs,rfl,step_same s1.ap huse,hnd,Nat.le_succ _,subs,keys,rfl,rfl,rfl,rfl,hch,fun _ h=>h,Nat.le_refl _,h6⟩
 generalize pFillIf room disk p σ1 (mkInner (subs.map (·.id)) keys) i d=r at*
 obtain⟨r,σ2⟩:=r
 rcases hfill with⟨n2,ids2,e1,s2,n2d,l2,subs',keys',rfl,rfl,q1,q2,q3,q4,q5,q6⟩ | ⟨e1,s2,l2⟩
 ·simp only at e1 s2 l2 q3
  subst e1
  simp only
  have s12:=s1.then_ s2
  have hid2:id ∉ ids_ subs':=s12.apart hid hidA
  have hst:=store_inner (disk:=disk) s12.ap id (tok:=tok) (big:=big) q3 (fun k hk2=>hk k (q4 k hk2)) (fun x hx=>s12.got hx) n2d hid2 (by omega) (by omega) q6 hb
  generalize pStore room (fuelOf (mkInner (subs'.map (·.id)) keys')) σ2 id (mkInner (subs'.map (·.id)) keys')=r3 at*
  rcases hst with⟨p3,ids3,e3,s3,n3,l3,q7⟩ | ⟨e3,s3,l3⟩
  ·exact .inl ⟨p3,ids3,e3,s12.then2 s3 hid2,n3,by omega,by rw[<-q1];exact q7⟩
  ·exact .inr ⟨e3,s3,by omega⟩
 ·simp only at e1 s2 l2
  subst e1
  exact .inr ⟨rfl,s2,by omega⟩
theorem getD_kid{subs:List Sub}{i:Nat}(hi:i<subs.length):(subs.map (·.id)).getD i 0=(subs[i]).id:=by
 rw[List.getD_eq_getElem?_getD,List.getElem?_map,List.getElem?_eq_getElem hi];rfl
theorem change_ok{g:List En.Ent->List En.Ent}{key:Str}(GO:GOp g key)(δ:Nat):∀ (h f:Nat) (σ:Pst) (lo hi:Option Str) (s:Sub) (big:Prop),h<f->f<=24->ApS room used σ->Tr (σ.view disk) h lo hi s->s.ids.Nodup->(∀x∈s.ids,Use used σ x)->gtLo lo key->ltHi hi key->(big->6 ^ h<=s.tok)->(g s.es).length<=s.es.length+δ->
  Res room disk used σ (fun x=>x∈s.ids) (3*(h+1)) (pChange room disk g key f σ s.id) (fun p σ' ids=>PartsAt (σ'.view disk) h lo hi p ids (g s.es) (s.tok+δ) big)
 |0,f+1,σ,lo,hi,s,big,_,_,hap,ht,hnd,huse,hk1,hk2,hb,hd=>by
  obtain⟨a1,a2,a3,a4,a5,a6⟩:=ht
  unfold pChange
  rw[a1]
  simp only
  rw[if_pos (show(mkLeaf s.es).leaf=true from rfl)]
  have hr:=(right_leaf.1 (fits_iff.1 a3).1).1
  have hsz:esize s.es<=240:=(fits_iff.1 a3).2
  have hst:=store_leaf (disk:=disk) hap s.id (l:=g s.es) (lo:=lo) (hi:=hi) (tok:=s.tok+δ) (big:=big) (GO.right _ hr) (fun x hx=>by
   rcases GO.inn _ x hx with h1 | h1
   ·exact a5 x h1
   ·rw[h1];exact⟨hk1,hk2⟩) (by have:=GO.size s.es;omega) (by omega)
  exact hst.mono (fun x=>by rw[a2];simp) (by omega) (fun _ _ _ h=>h)
 |h+1,f+1,σ,lo,hi,s,big,hf,hf24,hap,ht,hnd,huse,hk1,hk2,hb,hd=>by
  have G:=tr_good (σ.view disk) h
  have G1:=tr_good (σ.view disk) (h+1)
  have hrs:=G1.srt ht
  obtain⟨subs,keys,a1,a2,a3,a4,a5,a6,a7⟩:=ht
  obtain⟨hrt,hsz⟩:=fits_iff.1 a2
  obtain⟨_,r2,_,r4⟩:=right_inner.1 hrt
  have hkm:=((keys_iff _).1 r4).1
  have hks:=((keys_iff _).1 r4).2
  have hlen:=chain_len a7
  have hci:=child_le keys key
  obtain⟨i,hi0⟩:∃i,i=child keys key:=⟨_,rfl⟩
  have hi':i<subs.length:=by omega
  unfold pChange
  rw[a1]
  simp only
  rw[if_neg (show ¬ (mkInner (subs.map (·.id)) keys).leaf=true by simp[mkInner])]
  rw[show(mkInner (subs.map (·.id)) keys).keys=keys from rfl, <-hi0,show(mkInner (subs.map (·.id)) keys).kids=subs.map (·.id)from rfl,getD_kid hi']
  obtain⟨l,hh,ti,c1,c2,hrep,hloc,hcb⟩:=chain_at G a7 hi'
  obtain⟨kl,kh⟩:=hcb key hi0.symm hk1 hk2
  rw[a3,List.nodup_cons]at hnd
  obtain⟨hidn,hnd⟩:=hnd
  have hsp:subs=subs.take i++(subs[i]::subs.drop (i+1)):=by rw[<-List.drop_eq_getElem_cons,List.take_append_drop]
  have hidl:ids_ subs=ids_ (subs.take i)++((subs[i]).ids++ids_ (subs.drop (i+1))):=by
   conv=>lhs;rw[hsp]
   rw[ids_append,ids_cons]
  have hesl:es_ subs=es_ (subs.take i)++((subs[i]).es++es_ (subs.drop (i+1))):=by
   conv=>lhs;rw[hsp]
   rw[es_append,es_cons]
  have htkl:toks subs=toks (subs.take i)+((subs[i]).tok+toks (subs.drop (i+1))):=by
   conv=>lhs;rw[hsp]
   rw[toks_append,toks_cons]
  have hi6:=a6 _ (List.getElem_mem hi')
  have hnd2:=hnd
  rw[hidl,List.nodup_append,List.nodup_append]at hnd2
  obtain⟨nd1,⟨nd2,nd3,nd4⟩,nd5⟩:=hnd2
  have hmi:∀x∈(subs[i]).ids,x∈ids_ subs:=fun x hx=>mem_ids (List.getElem_mem hi') hx
  have hui:∀x∈ids_ subs,Use used σ x:=fun x hx=>huse x (by rw[a3];exact List.mem_cons_of_mem _ hx)
  have hus:Use used σ s.id:=huse s.id (by rw[a3];exact List.mem_cons_self)
  have hge:g s.es=es_ (subs.take i)++(g (subs[i]).es++es_ (subs.drop (i+1))):=by
   rw[a4,hesl]
   refine GO.loc _ _ _ (by rw[<-hesl, <-a4];exact hrs) (hloc key kl kh).1 (hloc key kl kh).2
  have ih:=change_ok GO δ h f σ l hh subs[i] True (by omega) (by omega) hap ti nd2 (fun x hx=>hui x (hmi x hx)) kl kh (fun _=>hi6) (by
   have e1:=hd
   rw[hge,a4,hesl]at e1
   simp only[List.length_append]at e1
   omega)
  generalize subs[i]=t at*
  generalize pChange room disk g key f σ t.id=r at*
  obtain⟨r,σ1⟩:=r
  rcases ih with⟨p,ids1,e1,s1,n1,l1,q⟩ | ⟨e1,s1,l1⟩
  ·simp only at e1 s1 l1 q
   subst e1
   simp only
   have hoth:∀x,(x∈ids_ (subs.take i)\/x∈ids_ (subs.drop (i+1)))->x∈ids_ subs/\x ∉ t.ids:=fun x hx=>by
    rw[hidl]
    rcases hx with hx | hx
    ·exact⟨List.mem_append_left _ hx,fun h2=>nd5 x hx x (List.mem_append_left _ h2) rfl⟩
    ·exact⟨List.mem_append_right _ (List.mem_append_right _ hx),fun h2=>nd4 x h2 x hx rfl⟩
   have hfr:=s1.frame hap (C:=fun x=>x∈ids_ subs) hui
   have hkeep:∀x,(x∈ids_ (subs.take i)\/x∈ids_ (subs.drop (i+1)))->σ1.view disk x=σ.view disk x:=fun x hx=>s1.keep x (hoth x hx).2 (hui x (hoth x hx).1)
   have hap1:∀x,(x∈ids_ (subs.take i)\/x∈ids_ (subs.drop (i+1)))->x ∉ ids1:=fun x hx=>s1.apart (hui x (hoth x hx).1) (hoth x hx).2
   have hA:∀x,(x∈t.ids\/x∈ids_ subs) ↔ x∈ids_ subs:=fun x=>⟨fun h=>h.elim (hmi x) (fun h=>h), .inr⟩
   have hB:∀x,(x∈ids1\/(x∈ids_ subs/\x ∉ t.ids)) ↔ (x∈ids_ (subs.take i)\/x∈ids1\/x∈ids_ (subs.drop (i+1))):=fun x=>by
    rw[hidl,List.mem_append,List.mem_append]
    constructor
    ·rintro(h1 | ⟨h1 | h1 | h1,h2⟩)
     ·exact .inr (.inl h1)
     ·exact .inl h1
     ·exact absurd h1 h2
     ·exact .inr (.inr h1)
    ·rintro(h1 | h1 | h1)
     ·exact .inr ⟨.inl h1,(hoth x (.inl h1)).2⟩
     ·exact .inl h1
     ·exact .inr ⟨.inr (.inr h1),(hoth x (.inr h1)).2⟩
   have hin:∀x,(x=s.id\/x∈ids_ subs) ↔ x∈s.ids:=fun x=>by rw[a3,List.mem_cons]
   have hkz:ksize keys<=236:=by have:4+ksize keys<=240:=hsz;omega
   have hb':big->6 ^ (h+1)<=s.tok+δ:=fun hbb=>by have:=hb hbb;omega
   have hnotleaf:¬ (mkInner (subs.map (·.id)) keys).leaf=true:=by simp[mkInner]
   have hkl1:(mkInner (subs.map (·.id)) keys).kids.length=subs.length:=List.length_map _
   have hktd:ksize (keys.take i)+ksize (keys.drop i)=ksize keys:=by rw[<-ksize_append,List.take_append_drop]
   rcases q with⟨rfl,rfl,q3⟩ | ⟨sp,q1,rfl,q3,q4,q5,q6,q7,q8⟩
   ·
    have hsw:swap (mkInner (subs.map (·.id)) keys) i (i+1) [] []=mkInner ((subs.take i++subs.drop (i+1)).map (·.id)) (keys.take (if 0<i then i-1 else i)++keys.drop (if i=0 then min 1 keys.length else i)):=by
     unfold swap
     rw[if_neg (by rw[hkl1];simp[mkInner];omega)]
     show mkInner ((subs.map (·.id)).take i++ []++(subs.map (·.id)).drop (i+1)) (keys.take (if([]:List Int).length=0/\0<i then i-1 else i)++ []++keys.drop (if([]:List Int).length=0/\i=0 then min (i+1) keys.length else i+1-1))=_
     rw[List.append_nil,List.append_nil,List.map_append,List.map_take,List.map_drop]
     congr 2
     ·by_cases hi1:0<i
      ·rw[if_pos ⟨rfl,hi1⟩,if_pos hi1]
      ·rw[if_neg (fun h=>hi1 h.2),if_neg hi1]
     ·by_cases hi1:i=0
      ·subst hi1;rw[if_pos ⟨rfl,rfl⟩,if_pos rfl]
      ·rw[if_neg (fun h=>hi1 h.2),if_neg hi1];rfl
    rw[hsw]
    rw[q3,List.nil_append, <-es_append]at hge
    have hst1:Step room disk used σ (fun x=>x∈ids_ subs) σ1 (fun x=>x∈ids_ (subs.take i++subs.drop (i+1))):=hfr.congr hA (fun x=>by
     rw[hB,ids_append,List.mem_append];simp)
    have hnd1:(ids_ (subs.take i++subs.drop (i+1))).Nodup:=by
     rw[ids_append,List.nodup_append]
     exact⟨nd1,nd3,fun x hx y hy=>nd5 x hx y (List.mem_append_right _ hy)⟩
    by_cases h1:subs.length=1
    ·have e0:i=0:=by omega
     subst e0
     have en:subs.take 0++subs.drop (0+1)= []:=by rw[List.drop_of_length_le (by omega)];rfl
     rw[en]at hge hst1
     rw[en]
     have hk0:keys= []:=List.eq_nil_of_length_eq_zero (by omega)
     subst hk0
     have e2:pFillIf room disk ([], []) σ1 (mkInner (([]:List Sub).map (·.id)) (([]:List Str).take (if 0<0 then 0-1 else 0)++([]:List Str).drop (if 0=0 then min 1 ([]:List Str).length else 0))) 0 (24-f)=(.ok (mkInner [] []),σ1):=by
      unfold pFillIf
      rw[if_neg (by simp)]
      simp
     rw[e2]
     simp only
     obtain⟨d1,d2⟩:=drop_step (disk:=disk) hst1.ap s.id
     have hid0:s.id ∉ ids_ ([]:List Sub):=by simp[ids_]
     have hdd:Step room disk used σ1 (fun x=>x=s.id\/x∈ids_ ([]:List Sub)) (pDrop σ1 s.id) (fun x=>x∈([]:List Int)):=d1.congr (fun x=>by simp[ids_]) (fun x=>by simp)
     refine .inl ⟨([], []), [], ?_,(hst1.then2 hdd hid0).congr hin (fun _=>Iff.rfl),List.nodup_nil, ?_, .inl ⟨rfl,rfl, ?_⟩⟩
     ·unfold pStore fuelOf mkInner;simp
     ·show(pStore room (fuelOf (mkInner [] [])) σ1 s.id (mkInner [] [])).2.mine.length<=_
      have:(pStore room (fuelOf (mkInner [] [])) σ1 s.id (mkInner [] [])).2=pDrop σ1 s.id:=by unfold pStore fuelOf mkInner;simp
      rw[this];omega
     ·rw[hge];rfl
    ·have hcd:=chain_del G a7 hi' (by omega)
     have hcd1:Chain (Tr (σ1.view disk) h) lo hi (subs.take i++subs.drop (i+1)) (keys.take (if 0<i then i-1 else i)++keys.drop (if i=0 then 1 else i)):=chain_view (fun x hx=>hkeep x (by rw[ids_append,List.mem_append]at hx;exact hx)) hcd
     have emin:(if i=0 then min 1 keys.length else i)=(if i=0 then 1 else i):=by
      by_cases hi1:i=0
      ·rw[if_pos hi1,if_pos hi1];omega
      ·rw[if_neg hi1,if_neg hi1]
     rw[emin]
     have hkk:∀k∈keys.take (if 0<i then i-1 else i)++keys.drop (if i=0 then 1 else i),k∈keys:=fun k hk=>by
      rcases List.mem_append.1 hk with hk | hk
      ·exact List.mem_of_mem_take hk
      ·exact List.mem_of_mem_drop hk
     have hkz2:ksize (keys.take (if 0<i then i-1 else i)++keys.drop (if i=0 then 1 else i))<=257:=by
      have s1:∀m,ksize (keys.take m)<=ksize keys:=fun m=>by
       have:ksize (keys.take m)+ksize (keys.drop m)=ksize keys:=by rw[<-ksize_append,List.take_append_drop]
       omega
      have s2:ksize (keys.take (i-1))<=ksize (keys.take i):=by
       have:(keys.take i).take (i-1)=keys.take (i-1):=by rw[List.take_take,Nat.min_eq_left (by omega)]
       rw[<-this]
       have e:ksize ((keys.take i).take (i-1))+ksize ((keys.take i).drop (i-1))=ksize (keys.take i):=by rw[<-ksize_append,List.take_append_drop]
       omega
      have s3:ksize (keys.drop 1)<=ksize keys:=by
       have:ksize (keys.take 1)+ksize (keys.drop 1)=ksize keys:=by rw[<-ksize_append,List.take_append_drop]
       omega
      rw[ksize_append]
      by_cases hi1:i=0
      ·subst hi1
       rw[if_neg (by omega),if_pos rfl]
       have:ksize (keys.take 0)=0:=by simp[ksize]
       omega
      ·rw[if_pos (by omega),if_neg hi1];omega
     have hfin:=finish_ok (N:=3*(h+1)) (id:=s.id) (tok:=s.tok+δ) (big:=big) (i:=i) (d:=24-f) (p:=([], [])) hst1 l1 hus hidn hcd1 (fun k hk=>hkm k (hkk k hk)) hnd1 hkz2 (by rw[toks_append];omega) (fun u hu=>by
      rcases List.mem_append.1 hu with hu | hu
      ·exact a6 u (List.mem_of_mem_take hu)
      ·exact a6 u (List.mem_of_mem_drop hu)) hb' (fun h=>by simp at h) (by omega)
     exact hfin.mono hin (by omega) (fun a σ' ids hq=>by rw[hge];exact hq)
   ·
    have hpl:=chain_len q5
    have hp2:p.2.length=p.1.length-1:=by rw[q1,List.length_map];omega
    have hp0:0<p.1.length:=by rw[q1,List.length_map];omega
    have hsw:swap (mkInner (subs.map (·.id)) keys) i (i+1) p.1 p.2=mkInner ((subs.take i++sp++subs.drop (i+1)).map (·.id)) (keys.take i++p.2++keys.drop i):=by
     unfold swap
     rw[if_neg (by rw[hkl1];simp[mkInner];omega)]
     show mkInner ((subs.map (·.id)).take i++p.1++(subs.map (·.id)).drop (i+1)) (keys.take (if p.1.length=0/\0<i then i-1 else i)++p.2++keys.drop (if p.1.length=0/\i=0 then min (i+1) keys.length else i+1-1))=_
     rw[if_neg (by omega),if_neg (by omega),q1,List.map_append,List.map_append,List.map_take,List.map_drop]
     rfl
    rw[hsw]
    have hch1:=hrep (Tr (σ1.view disk) h) sp p.2 (fun u hu l' h' hT=>tr_congr (fun x hx=>hkeep x (by
     rcases hu with hu | hu
     ·exact .inl (mem_ids hu hx)
     ·exact .inr (mem_ids hu hx))) hT) q5
    have hes1:es_ (subs.take i++sp++subs.drop (i+1))=g s.es:=by rw[es_append,es_append,hge,q3,List.append_assoc]
    have hst1:Step room disk used σ (fun x=>x∈ids_ subs) σ1 (fun x=>x∈ids_ (subs.take i++sp++subs.drop (i+1))):=hfr.congr hA (fun x=>by
     rw[hB,ids_append,ids_append,List.mem_append,List.mem_append,or_assoc])
    have hnd1:(ids_ (subs.take i++sp++subs.drop (i+1))).Nodup:=by
     rw[ids_append,ids_append,List.nodup_append,List.nodup_append]
     refine⟨⟨nd1,n1,fun x hx y hy e=>hap1 x (.inl hx) (e ▸ hy)⟩,nd3,fun x hx y hy=> ?_⟩
     rcases List.mem_append.1 hx with hx | hx
     ·exact nd5 x hx y (List.mem_append_right _ hy)
     ·exact fun e=>hap1 y (.inr hy) (e ▸ hx)
    have hpz:ksize p.2<=21:=by
     have:=ksize_may q6
     have:p.2.length<=1:=by rw[hp2,q1,List.length_map];omega
     omega
    have hfin:=finish_ok (N:=3*(h+1)) (id:=s.id) (tok:=s.tok+δ) (big:=big) (i:=i) (d:=24-f) (p:=p) hst1 l1 hus hidn hch1 (fun k hk=>by
     rcases List.mem_append.1 hk with hk | hk
     ·rcases List.mem_append.1 hk with hk | hk
      ·exact hkm k (List.mem_of_mem_take hk)
      ·exact q6 k hk
     ·exact hkm k (List.mem_of_mem_drop hk)) hnd1 (by rw[ksize_append,ksize_append];omega) (by rw[toks_append,toks_append];omega) (fun u hu=>by
     rcases List.mem_append.1 hu with hu | hu
     ·rcases List.mem_append.1 hu with hu | hu
      ·exact a6 u (List.mem_of_mem_take hu)
      ·exact q8 (.inl trivial) u hu
     ·exact a6 u (List.mem_of_mem_drop hu)) hb' (fun _=>(by
     rw[List.length_append,List.length_append,List.length_take]
     have:0<sp.length:=by rw[q1,List.length_map]at hp0;exact hp0
     omega)) (by omega)
    exact hfin.mono hin (by omega) (fun a σ' ids hq=>by rw[<-hes1];exact hq)
  ·simp only at e1 s1 l1
   subst e1
   exact .inr ⟨rfl,s1,by omega⟩
end
def RootAt(disk:Disk)(used:List Run)(σ:Pst)(root:Int)(es:List En.Ent)(tok:Nat)(ids:List Int):Prop:=
 (root=0/\es= []/\ids= [])\/∃h s,s.id=root/\s.ids=ids/\s.es=es/\s.tok<=tok/\Tr (σ.view disk) h none none s/\ids.Nodup/\(∀x∈ids,Use used σ x)/\(h=0\/2*6 ^ (h-1)<=s.tok)
theorem low_of{h t:Nat}(h1:h=0\/2*6 ^ (h-1)<=t)(h2:t<=1000000):h<=8:=by
 by_cases hh:h<=8
 ·exact hh
 ·rcases h1 with h1 | h1
  ·omega
  ·have:6 ^ 8<=6 ^ (h-1):=Nat.pow_le_pow_right (by decide) (by omega)
   have e:(6:Nat) ^ 8=1679616:=by decide
   omega
section
variable {room:Int}{disk:Disk}{used:List Run}{σ:Pst}
theorem shrink_ok:∀ (h f:Nat) (σ:Pst) (s:Sub),h<f->ApS room used σ->Tr (σ.view disk) h none none s->s.ids.Nodup->(∀x∈s.ids,Use used σ x)->
  ∃id' σ' ids',pShrink disk f σ s.id=(.ok id',σ')/\Step room disk used σ (fun x=>x∈s.ids) σ' (fun x=>x∈ids')/\ids'.Nodup/\σ'.mine.length<=σ.mine.length/\RootAt disk used σ' id' s.es s.tok ids'
 |0,f+1,σ,s,_,hap,ht,hnd,huse=>by
  refine⟨s.id,σ,s.ids, ?_,step_same hap huse,hnd,Nat.le_refl _, .inr ⟨0,s,rfl,rfl,rfl,Nat.le_refl _,ht,hnd,huse, .inl rfl⟩⟩
  unfold pShrink
  rw[ht.1]
  simp only
  rw[if_pos (.inl rfl)]
 |h+1,f+1,σ,s,hf,hap,ht,hnd,huse=>by
  have ht0:=ht
  obtain⟨subs,keys,a1,a2,a3,a4,a5,a6,a7⟩:=ht
  unfold pShrink
  rw[a1]
  simp only
  have hkl:(mkInner (subs.map (·.id)) keys).kids.length=subs.length:=List.length_map _
  by_cases hc:1<subs.length
  ·rw[if_pos (.inr (by rw[hkl];exact hc))]
   refine⟨s.id,σ,s.ids,rfl,step_same hap huse,hnd,Nat.le_refl _, .inr ⟨h+1,s,rfl,rfl,rfl,Nat.le_refl _,ht0,hnd,huse, .inr ?_⟩⟩
   have hg:=toks_ge (subs:=subs) (m:=6 ^ h) a6
   have:2*6 ^ h<=subs.length*6 ^ h:=Nat.mul_le_mul_right _ (by omega)
   rw[Nat.add_one_sub_one]
   omega
  ·have hne:=chain_ne a7
   obtain⟨t,rfl⟩:∃t,subs= [t]:=by
    cases subs with
    |nil=>exact absurd rfl hne
    |cons t r=>
     cases r with
     |nil=>exact⟨t,rfl⟩
     |cons u r=>simp at hc
   have hk0:keys= []:=List.eq_nil_of_length_eq_zero (by have:=chain_len a7;simp only[List.length_cons,List.length_nil]at this;omega)
   subst hk0
   rw[if_neg (by simp[mkInner])]
   show ∃id' σ' ids',pShrink disk f (pDrop σ s.id) t.id=(.ok id',σ')/\_
   have e1:ids_ [t]=t.ids:=by simp[ids_]
   have e2:es_ [t]=t.es:=by simp[es_]
   have e3:toks [t]=t.tok:=by simp[toks]
   rw[e1]at a3
   rw[e2]at a4
   rw[e3]at a5
   rw[a3,List.nodup_cons]at hnd
   obtain⟨d1,d2⟩:=drop_step (disk:=disk) hap s.id
   have hut:∀x∈t.ids,Use used σ x:=fun x hx=>huse x (by rw[a3];exact List.mem_cons_of_mem _ hx)
   have hne2:∀x∈t.ids,x≠s.id:=fun x hx e=>hnd.1 (e ▸ hx)
   have htr:Tr ((pDrop σ s.id).view disk) h none none t:=tr_congr (fun x hx=>d1.keep x (hne2 x hx) (hut x hx)) a7
   obtain⟨id',σ',ids',g1,g2,g3,g4,g5⟩:=shrink_ok h f (pDrop σ s.id) t (by omega) d1.ap htr hnd.2 (fun x hx=>d1.use (hut x hx) (hne2 x hx))
   have hfr:=(d1.frame hap (C:=fun x=>x∈t.ids) hut).congr (A':=fun x=>x=s.id\/x∈t.ids) (A1':=fun x=>x∈t.ids) (fun _=>Iff.rfl) (fun x=>⟨fun h=>h.elim (fun h=>h.elim) (fun h=>h.1),fun h=> .inr ⟨h,hne2 x h⟩⟩)
   refine⟨id',σ',ids',g1,(hfr.then_ g2).congr (fun x=>by rw[a3,List.mem_cons]) (fun _=>Iff.rfl),g3,by omega, ?_⟩
   rw[a4]
   rcases g5 with h1 | ⟨h2,s2,q1,q2,q3,q4,q5⟩
   ·exact .inl h1
   ·exact .inr ⟨h2,s2,q1,q2,q3,by omega,q5⟩
theorem grow_ok(hap:ApS room used σ){h:Nat}{p:Part}{ids:List Int}{es:List En.Ent}{tok:Nat}{big:Prop}(hp:PartsAt (σ.view disk) h none none p ids es tok big)(hh:h<=20)(hnd:ids.Nodup)(huse:∀x∈ids,Use used σ x):
  Res room disk used σ (fun x=>x∈ids) 1 (pGrow room disk (p.1.length+1) σ p) (fun root σ' ids'=>RootAt disk used σ' root es tok ids'):=by
 rcases hp with⟨rfl,rfl,rfl⟩ | ⟨subs,q1,rfl,rfl,q4,q5,q6,q7,q8⟩
 ·unfold pGrow
  rw[if_neg (by simp)]
  exact .inl ⟨0, [],rfl,step_same hap huse,hnd,Nat.le_succ _, .inl ⟨rfl,rfl,rfl⟩⟩
 ·have hpl:p.1.length=subs.length:=by rw[q1,List.length_map]
  have hne:=chain_ne q5
  have hcl:=chain_len q5
  by_cases h1:subs.length=1
  ·obtain⟨t,rfl⟩:∃t,subs= [t]:=List.length_eq_one_iff.1 h1
   have e1:ids_ [t]=t.ids:=by simp[ids_]
   have e2:es_ [t]=t.es:=by simp[es_]
   have e3:toks [t]=t.tok:=by simp[toks]
   rw[e1]at hnd huse ⊢
   rw[e2]
   rw[e3]at q4
   have hk0:p.2= []:=List.eq_nil_of_length_eq_zero (by omega)
   rw[hk0]at q5
   unfold pGrow
   rw[if_neg (by omega),q1]
   simp only[List.map_cons,List.map_nil]
   obtain⟨id',σ',ids',g1,g2,g3,g4,g5⟩:=shrink_ok h 24 σ t (by omega) hap q5 hnd huse
   rw[g1]
   refine .inl ⟨id',ids',rfl,g2,g3,by show σ'.mine.length<=_;omega, ?_⟩
   rcases g5 with h1 | ⟨h2,s2,w1,w2,w3,w4,w5⟩
   ·exact .inl h1
   ·exact .inr ⟨h2,s2,w1,w2,w3,by omega,w5⟩
  ·have h2:subs.length=2:=by
    have:subs.length≠0:=fun e=>hne (List.eq_nil_of_length_eq_zero e)
    omega
   have h6:=q8 (.inr h1)
   have hks:=(chain_range (tr_good _ _) q5).2.2.2.1
   have hkz:=ksize_may q6
   have hk1:p.2.length=1:=by omega
   have hkr:=kids_range hap q5 huse
   have hfit:fits (mkInner p.1 p.2)=true:=fits_iff.2 ⟨mkInner_right (by omega) (by rw[q1];exact hkr) q6 hks,by show 4+ksize p.2<=240;rw[hk1]at hkz;omega⟩
   unfold pGrow
   rw[if_pos (by omega)]
   have ho:=store_one (disk:=disk) hap p.1.length 0 (n:=mkInner p.1 p.2) (by show 0+p.1.length≠0;omega) hfit
   generalize pStore room (p.1.length+1) σ 0 (mkInner p.1 p.2)=r at*
   obtain⟨r,σ1⟩:=r
   rcases ho with⟨q,ids1,e1,s1,n1,l1,pg,rfl,rfl,v1⟩ | ⟨e1,s1,l1⟩
   ·simp only at e1 s1 l1 v1
    subst e1
    simp only
    have hz:∀x∈ids_ subs,x≠0:=fun x hx e=>by have:=use_range hap (huse x hx);omega
    have hkeep:∀x∈ids_ subs,σ1.view disk x=σ.view disk x:=fun x hx=>s1.keep x (hz x hx) (huse x hx)
    have hpg:pg ∉ ids_ subs:=fun hx=>s1.apart (huse pg hx) (hz pg hx) (by simp)
    have htr:Tr (σ1.view disk) (h+1) none none ⟨pg,pg::ids_ subs,es_ subs,tok⟩:=⟨subs,p.2,by rw[v1,q1],by rw[<-q1];exact hfit,rfl,rfl,q4,h6,chain_view hkeep q5⟩
    have hnd1:(pg::ids_ subs).Nodup:=List.nodup_cons.2 ⟨hpg,hnd⟩
    have hst:Step room disk used σ (fun x=>x∈ids_ subs) σ1 (fun x=>x∈pg::ids_ subs):=((s1.frame hap (C:=fun x=>x∈ids_ subs) huse).shrink (A2:=fun x=>x∈ids_ subs) (fun x hx hx2 hu=>by
     rcases hx with hx | hx
     ·exact no_zero hap (by omega) hu
     ·exact hx2 hx) (fun x hx=> .inr hx)).congr (fun _=>Iff.rfl) (fun x=>by
     simp only[List.mem_cons,List.not_mem_nil,or_false]
     constructor
     ·rintro(h1 | ⟨h1,_⟩)
      ·exact .inl h1
      ·exact .inr h1
     ·rintro(h1 | h1)
      ·exact .inl h1
      ·exact .inr ⟨h1,hz x h1⟩)
    obtain⟨f,hf⟩:∃f,p.1.length=f+1:=⟨p.1.length-1,by omega⟩
    rw[hf]
    unfold pGrow
    rw[if_neg (by simp)]
    simp only
    obtain⟨id',σ',ids',g1,g2,g3,g4,g5⟩:=shrink_ok (h+1) 24 σ1 ⟨pg,pg::ids_ subs,es_ subs,tok⟩ (by omega) s1.ap htr hnd1 (fun x hx=>hst.got hx)
    simp only at g1
    rw[g1]
    exact .inl ⟨id',ids',rfl,hst.then_ g2,g3,by show σ'.mine.length<=_;omega,g5⟩
   ·simp only at e1 s1 l1
    subst e1
    exact .inr ⟨rfl,s1,by omega⟩
end
def gPut(k v:Str)(l:List En.Ent):List En.Ent:=if En.right l&&En.may k v then En.put l k v else l
def gDel(k:Str)(l:List En.Ent):List En.Ent:=if En.right l then En.del l k else l
theorem del_app(a b:List En.Ent)(k:Str):En.del (a++b) k=En.del a k++En.del b k:=by unfold En.del;rw[List.filter_append]
theorem del_none{a:List En.Ent}{k:Str}(h:∀x∈a,x.1≠k):En.del a k=a:=by
 unfold En.del
 rw[List.filter_eq_self]
 intro x hx
 rw[Bool.not_eq_true',eqs_false];exact h x hx
theorem ins_low{x:En.Ent} :∀ {a:List En.Ent} (l:List En.Ent),(∀y∈a,lt y.1 x.1=true)->En.ins x (a++l)=a++En.ins x l
 | [],_,_=>rfl
 |y::a,l,h=>by
  rw[List.cons_append,En.ins,if_neg (by rw[lt_not (h y List.mem_cons_self)];simp),ins_low l (fun z hz=>h z (List.mem_cons_of_mem _ hz))]
  rfl
theorem ins_high{x:En.Ent}{b:List En.Ent}(h:∀y∈b,lt x.1 y.1=true):∀ (l:List En.Ent),En.ins x (l++b)=En.ins x l++b
 | []=>by
  cases b with
  |nil=>rfl
  |cons y b=>rw[List.nil_append];show En.ins x (y::b)=x::y::b;rw[En.ins,if_pos (h y List.mem_cons_self)]
 |y::l=>by
  rw[List.cons_append,En.ins,En.ins]
  by_cases hc:lt x.1 y.1=true
  ·rw[if_pos hc,if_pos hc];rfl
  ·rw[if_neg hc,if_neg hc,ins_high h l];rfl
theorem esize_ins(x:En.Ent):∀l:List En.Ent,esize (En.ins x l)=esz x+esize l
 | []=>by rw[En.ins,esize_cons]
 |y::l=>by
  rw[En.ins]
  split
  ·rw[esize_cons]
  ·rw[esize_cons,esize_ins x l,esize_cons];omega
theorem esize_del(l:List En.Ent)(k:Str):esize (En.del l k)<=esize l:=by
 induction l with
 |nil=>exact Nat.le_refl _
 |cons x l ih=>
  unfold En.del at*
  rw[List.filter_cons]
  split
  ·rw[esize_cons,esize_cons];omega
  ·rw[esize_cons];omega
theorem sub_mid(a l b:List En.Ent):l.Sublist (a++(l++b)):=(List.sublist_append_left l b).trans (List.sublist_append_right a _)
theorem gPut_op{k v:Str}(hm:En.may k v=true):GOp (gPut k v) k where
 right:=fun l h=>by unfold gPut;rw[h,hm];exact right_put h hm
 loc:=fun a l b h ha hb=>by
  unfold gPut
  rw[h,hm,right_sub h (sub_mid a l b)]
  show En.put _ k v=a++(En.put l k v++b)
  unfold En.put
  rw[del_app,del_app,del_none (fun x hx=>lt_ne (ha x hx)),del_none (fun x hx=>(lt_ne (hb x hx)).symm),ins_low _ ha,ins_high hb]
 inn:=fun l x hx=>by
  unfold gPut at hx
  split at hx
  ·rcases mem_put.1 hx with rfl | h
   ·exact .inr rfl
   ·exact .inl h.1
  ·exact .inl hx
 size:=fun l=>by
  unfold gPut
  split
  ·unfold En.put
   rw[esize_ins]
   have:=esize_del l k
   have:=esz_may (x:=(k,v)) hm
   omega
  ·omega
theorem gDel_op(k:Str):GOp (gDel k) k where
 right:=fun l h=>by unfold gDel;rw[h];exact right_del h
 loc:=fun a l b h ha hb=>by
  unfold gDel
  rw[h,right_sub h (sub_mid a l b)]
  show En.del _ k=a++(En.del l k++b)
  rw[del_app,del_app,del_none (fun x hx=>lt_ne (ha x hx)),del_none (fun x hx=>(lt_ne (hb x hx)).symm)]
 inn:=fun l x hx=>by
  unfold gDel at hx
  split at hx
  ·exact .inl (mem_del.1 hx).1
  ·exact .inl hx
 size:=fun l=>by
  unfold gDel
  split
  ·have:=esize_del l k;omega
  ·omega
theorem get_mid{a l b:List En.Ent}{k:Str}(ha:∀x∈a,lt x.1 k=true)(hb:∀x∈b,lt k x.1=true):En.get (a++(l++b)) k=En.get l k:=by
 have h1:∀ (c:List En.Ent),(∀x∈c,x.1≠k)->c.find? (fun x=>eqs x.1 k)=none:=fun c hc=>by
  rw[List.find?_eq_none]
  intro x hx
  rw[eqs_no (hc x hx)];simp
 unfold En.get
 rw[List.find?_append,h1 a (fun x hx=>lt_ne (ha x hx)),List.find?_append,h1 b (fun x hx=>(lt_ne (hb x hx)).symm)]
 cases l.find? (fun x=>eqs x.1 k)<;>rfl
section
variable {disk:Disk}{σ:Pst}
theorem find_tr{key:Str} :∀ (h f:Nat) (lo hi:Option Str) (s:Sub),h<f->Tr (σ.view disk) h lo hi s->s.id≠0->gtLo lo key->ltHi hi key->pFind disk σ key f s.id= .ok (En.get s.es key)
 |0,f+1,lo,hi,s,_,ht,h0,_,_=>by
  rw[pFind,if_neg h0,ht.1]
  simp only
  rw[if_pos (show(mkLeaf s.es).leaf=true from rfl)]
  rfl
 |h+1,f+1,lo,hi,s,hf,ht,h0,hk1,hk2=>by
  have G:=tr_good (σ.view disk) h
  obtain⟨subs,keys,a1,a2,a3,a4,a5,a6,a7⟩:=ht
  obtain⟨hrt,hsz⟩:=fits_iff.1 a2
  obtain⟨_,r2,r3,r4⟩:=right_inner.1 hrt
  have hlen:=chain_len a7
  have hci:=child_le keys key
  obtain⟨i,hi0⟩:∃i,i=child keys key:=⟨_,rfl⟩
  have hi':i<subs.length:=by omega
  rw[pFind,if_neg h0,a1]
  simp only
  rw[if_neg (show ¬ (mkInner (subs.map (·.id)) keys).leaf=true by simp[mkInner])]
  rw[show(mkInner (subs.map (·.id)) keys).keys=keys from rfl, <-hi0,show(mkInner (subs.map (·.id)) keys).kids=subs.map (·.id)from rfl,getD_kid hi']
  obtain⟨l,hh,ti,c1,c2,hrep,hloc,hcb⟩:=chain_at G a7 hi'
  obtain⟨kl,kh⟩:=hcb key hi0.symm hk1 hk2
  have hid:2<=(subs[i]).id:=(r3 _ (List.mem_map.2 ⟨subs[i],List.getElem_mem hi',rfl⟩)).1
  rw[find_tr h f l hh subs[i] (by omega) ti (by omega) kl kh]
  have hsp:subs=subs.take i++(subs[i]::subs.drop (i+1)):=by rw[<-List.drop_eq_getElem_cons,List.take_append_drop]
  have hesl:es_ subs=es_ (subs.take i)++((subs[i]).es++es_ (subs.drop (i+1))):=by
   conv=>lhs;rw[hsp]
   rw[es_append,es_cons]
  rw[a4,hesl,get_mid (hloc key kl kh).1 (hloc key kl kh).2]
end
def from_(l:List En.Ent)(frm:Str):List En.Ent:=l.drop (place l frm)
theorem from_cons(x:En.Ent)(l:List En.Ent)(frm:Str):from_ (x::l) frm=if lt x.1 frm then from_ l frm else x::l:=by
 unfold from_ place
 rw[List.takeWhile_cons]
 by_cases h:lt x.1 frm=true
 ·rw[if_pos h,if_pos h];rfl
 ·rw[if_neg h,if_neg h];rfl
theorem from_low{a:List En.Ent}{frm:Str}(b:List En.Ent)(h:∀x∈a,lt x.1 frm=true):from_ (a++b) frm=from_ b frm:=by
 induction a with
 |nil=>rfl
 |cons x a ih=>rw[List.cons_append,from_cons,if_pos (h x List.mem_cons_self),ih fun y hy=>h y (List.mem_cons_of_mem _ hy)]
theorem from_all{b:List En.Ent}{frm:Str}(h:∀x∈b,lt x.1 frm=false):from_ b frm=b:=by
 cases b with
 |nil=>rfl
 |cons x b=>rw[from_cons,if_neg (by rw[h x List.mem_cons_self];simp)]
theorem from_high{a b:List En.Ent}{frm:Str}(h:∀x∈b,lt x.1 frm=false):from_ (a++b) frm=from_ a frm++b:=by
 induction a with
 |nil=>rw[List.nil_append,from_all h];rfl
 |cons x a ih=>
  rw[List.cons_append,from_cons,from_cons]
  split
  ·exact ih
  ·rfl
theorem chain_from{P:SubP}{hi:Option Str}{frm:Str}(G:Good P):∀ {subs:List Sub} {keys:List Str} {lo:Option Str},Chain P lo hi subs keys->∃ (h:child keys frm<subs.length),from_ (es_ subs) frm=from_ (subs[child keys frm]).es frm++es_ (subs.drop (child keys frm+1))/\∀t∈subs.drop (child keys frm+1),∀x∈t.es,lt x.1 frm=false
 | [s], [],lo,h=>⟨by simp[child],by simp[child,es_],by simp[child]⟩
 |s::rest,k::ks,lo,h=>by
  obtain⟨p,q⟩:=chain_cons.1 h
  obtain⟨_,r2,_,_,_⟩:=chain_range G q
  by_cases hc:lt frm k=true
  ·have e:child (k::ks) frm=0:=by unfold child;rw[if_pos hc]
   rw[e]
   have hx:∀x∈es_ rest,lt x.1 frm=false:=fun x hx=>lt_not (lt_of_lt_ge hc (gtLo_some.1 (r2 x hx).1))
   refine⟨by simp, ?_,fun t ht x hxt=>hx x ?_⟩
   ·rw[es_cons,from_high hx]
    simp
   ·unfold es_;rw[List.mem_flatMap];exact⟨t,by simpa using ht,hxt⟩
  ·have e:child (k::ks) frm=child ks frm+1:=by rw[child];rw[if_neg hc]
   rw[e]
   obtain⟨i1,i2,i3⟩:=chain_from G q (frm:=frm)
   refine⟨by simpa using i1, ?_, ?_⟩
   ·rw[es_cons,from_low _ (fun x hx=> ?_),i2]
    ·simp
    ·exact lt_of_lt_ge (ltHi_some.1 ((G.inn p x hx).2)) (by simpa using hc)
   ·simpa using i3
def ystep{S:Type}(y:S->En.Ent->S × Bool):S->List En.Ent->S × Bool
 |s, []=>(s,true)
 |s,x::l=>if(y s x).2 then ystep y (y s x).1 l else((y s x).1,false)
theorem ystep_app{S:Type}{y:S->En.Ent->S × Bool} :∀ (a b:List En.Ent) (s:S),ystep y s (a++b)=if(ystep y s a).2 then ystep y (ystep y s a).1 b else ystep y s a
 | [],b,s=>by simp[ystep]
 |x::a,b,s=>by
  rw[List.cons_append,ystep,ystep]
  by_cases h:(y s x).2=true
  ·rw[if_pos h,if_pos h,ystep_app a b]
  ·rw[if_neg h,if_neg h];simp
theorem goKids_y{S:Type}{y:S->En.Ent->S × Bool}{vis:Int->S->S × Except Int Bool}{part:Sub->List En.Ent} :∀ (l:List Sub) (s:S),(∀t∈l,∀s,vis t.id s=((ystep y s (part t)).1, .ok (ystep y s (part t)).2))->goKids vis (l.map (·.id)) s=((ystep y s (l.flatMap part)).1, .ok (ystep y s (l.flatMap part)).2)
 | [],s,_=>rfl
 |t::l,s,h=>by
  rw[List.map_cons,goKids,h t List.mem_cons_self,List.flatMap_cons,ystep_app]
  cases hb:(ystep y s (part t)).2 with
  |true=>simp only[if_true];exact goKids_y l _ (fun u hu=>h u (List.mem_cons_of_mem _ hu))
  |false=>simp[hb]
theorem visit_tr{S:Type}{disk:Disk}{σ:Pst}{frm:Str}(y:S->En.Ent->S × Bool):∀ (h f:Nat) (lo hi:Option Str) (s:Sub) (st:S),h<f->Tr (σ.view disk) h lo hi s->
  pVisit disk σ frm (ystep y) f s.id st=((ystep y st (from_ s.es frm)).1, .ok (ystep y st (from_ s.es frm)).2)
 |0,f+1,lo,hi,s,st,_,ht=>by
  rw[pVisit,ht.1]
  simp only
  rw[if_pos (show(mkLeaf s.es).leaf=true from rfl)]
  rfl
 |h+1,f+1,lo,hi,s,st,hf,ht=>by
  have G:=tr_good (σ.view disk) h
  obtain⟨subs,keys,a1,a2,a3,a4,a5,a6,a7⟩:=ht
  obtain⟨i1,i2,i3⟩:=chain_from G a7 (frm:=frm)
  rw[pVisit,a1]
  simp only
  rw[if_neg (show ¬ (mkInner (subs.map (·.id)) keys).leaf=true by simp[mkInner])]
  show goKids _ ((subs.map (·.id)).drop (child keys frm)) st=_
  have e:(subs.map (·.id)).drop (child keys frm)=(subs.drop (child keys frm)).map (·.id):=by rw[List.map_drop]
  rw[e,goKids_y (y:=y) (part:=fun t=>from_ t.es frm) _ _ (fun t ht s=> ?_)]
  ·have e2:(subs.drop (child keys frm)).flatMap (fun t=>from_ t.es frm)=from_ s.es frm:=by
    rw[a4,i2,List.drop_eq_getElem_cons i1,List.flatMap_cons]
    congr 1
    unfold es_
    generalize subs.drop (child keys frm+1)=l at*
    clear i2 e
    induction l with
    |nil=>rfl
    |cons t l ih=>rw[List.flatMap_cons,List.flatMap_cons,from_all (i3 t List.mem_cons_self),ih fun u hu=>i3 u (List.mem_cons_of_mem _ hu)]
   rw[e2]
  ·obtain⟨l,hh,hp⟩:=chain_all a7 t (List.mem_of_mem_drop ht)
   exact visit_tr y h f l hh t s (by omega) hp
end Tp
namespace Go.Proofs.YtjoiajmbfbjnnaaGreatDoor
open Go.RowKit Go.Shelf
theorem ent_child:∀args w,(callFunc 82 args).run Tryz.prog w= .ok (.enter 82 args) w:=fun args w=>by kernel_rfl
theorem find_zero{disk:Tp.Disk}{σ:Tp.Pst}{key:ByteArray}{f:Nat}{ov:Option En.Str}(h:Tp.pFind disk σ key f 0= .ok ov):ov=none:=by
 cases f<;>simp[Tp.pFind]at h<;>exact h.symm
theorem find_view{disk:Tp.Disk}{σ:Tp.Pst}{key:ByteArray}{f:Nat}{id:Int}{ov:Option En.Str}(h:Tp.pFind disk σ key f id= .ok ov)(h0:id≠0):∃f' n,f=f'+1/\σ.view disk id=some n/\(if n.leaf then .ok (En.get n.ents key)else Tp.pFind disk σ key f' (n.kids.getD (Nd.child n.keys key) 0))=(Except.ok ov:Except Int (Option En.Str)):=by
 cases f with
 |zero=>rw[Tp.pFind,if_neg h0]at h;cases h
 |succ f=>
  rw[Tp.pFind,if_neg h0]at h
  cases hv:σ.view disk id with
  |none=>rw[hv]at h;cases h
  |some n=>rw[hv]at h;exact⟨f,n,rfl,rfl,h⟩
section
variable {S:Nat->Prop}{B t:Nat}{room:Int}{disk:Tp.Disk}{TM:Nat->Tp.Pst->World->Prop}
def getV(ov:Option En.Str):Value:=match ov with
 |some v=> .tuple #[.string v, .bool true, .int .i64 0]
 |none=> .tuple #[.string ⟨#[]⟩, .bool false, .int .i64 0]
def GtEnd(S:Nat->Prop)(B t u:Nat)(TM:Nat->Tp.Pst->World->Prop)(root:Int)(r:Nat)(σ:Tp.Pst)(ov:Option En.Str)(w:World)(e:Ending)(w':World):Prop:=e= .returned (getV ov)/\On S B t u TM root 0 r σ w'/\Fr S w w'
theorem tget_any(M:Mach S B t room disk TM)(u:Nat)(root:Int)(key:ByteArray)(r:Nat)(σ:Tp.Pst)(ov:Option En.Str)(hfind:Tp.pFind disk σ key 24 root= .ok ov)(w:World)(h:On S B t u TM root 0 (r+48) σ w):
  Calls Tryz.prog 21 #[.pointer (some ⟨u,0,none⟩), .string key] w (GtEnd S B t u TM root r σ ov w):=by
 have t1:w.cell? ⟨u,1,none⟩=some (.int .i64 root):=h.self.cell 1
 have t2:w.cell? ⟨u,2,none⟩=some (.int .i64 0):=h.self.cell 2
 have HM:=Lib.hid M
 have HON:=Lib.hid h
 have hsz:=M.size h.tm
 have hun:u<w.heap.size:=h.self.lt
 have HFD:=Lib.hid hfind
 clear hfind h M
 go_enter Tryz.func21,Tryz.ntmps21
 go_wp2
 go_loopg [7,8] 24 (fun g s7 s8 wr=>∃ (d f:Nat) (idi:Int),s7= .int .i64 idi/\s8= .int .i64 (d:Nat)/\d+f=24/\f<=g/\Hid (Tp.pFind disk σ key f idi= .ok ov)/\Hid (On S B t u TM root 0 (r+2*f) σ wr)/\Hid (Fr S w wr))
 case atStart=>exact⟨0,24,root,rfl,rfl,rfl,Nat.le_refl _,HFD,HON,Lib.hid (Fr.refl _)⟩
 case round=>
  obtain⟨d,f,idi,rfl,rfl,hdf,hfg,HFI,HONI,HFR⟩:=hrel
  have hwz:=HFR.out.size
  by_cases h0:idi=0
  ·subst h0
   have hov:=find_zero HFI.out
   have HOV:=Lib.hid hov
   have HON2:=Lib.hid (HONI.out.less HM.out (show r<=r+2*f by omega))
   clear hov
   go_wp2
   go_ret3
   exact⟨by rw[HOV.out];rfl,HON2.out,HFR.out⟩
  ·obtain⟨f,n,rfl,hv,hgo⟩:=find_view HFI.out h0
   have h0n:(idi != 0)=true:=by simpa using h0
   have hfit:=(HM.out.ht HONI.out.tm hv).1
   have HLD:=Lib.hid (load_any HM.out u root 0 (r+2*f) σ idi d n hv (by omega) wr (HONI.out.less HM.out (by omega)))
   have HFIT:=Lib.hid hfit
   have HGO:=Lib.hid hgo
   clear hv hfit hgo
   go_wp2_with fail
   refine Calls.mono HLD.out ?_
   rintro e w1 ⟨v,rfl,hnf,hon1,hf1⟩
   obtain⟨N1,c1,N2,c2,N3,c3,rfl,rn⟩:=hnf
   have hz1:=hf1.size
   have hb2:=(Below.refl w1.heap.size w1).alloc (Nat.le_refl _) (.cells #[.bool n.leaf, .slice N1 n.ents.length c1, .slice N2 n.kids.length c2, .slice N3 n.keys.length c3] 32)
   have hF2:=(HFR.out.trans hf1).trans (.of_below hb2)
   have hon2:=hon1.below HM.out hb2
   have hBn:=Blk.new w1 32 #[.bool n.leaf, .slice N1 n.ents.length c1, .slice N2 n.kids.length c2, .slice N3 n.keys.length c3]
   have hNF:=NF.below (lo:=wr.heap.size) (v:= .agg #[.bool n.leaf, .slice N1 n.ents.length c1, .slice N2 n.kids.length c2, .slice N3 n.keys.length c3]) ⟨N1,c1,N2,c2,N3,c3,rfl,rn⟩ hb2
   have HRN:=Lib.hid rn
   have HB2:=Lib.hid hb2
   have hzz:(w1.alloc (.cells #[.bool n.leaf, .slice N1 n.ents.length c1, .slice N2 n.kids.length c2, .slice N3 n.keys.length c3] 32)).heap.size=w1.heap.size+1:=by simp
   unfold nodeV
   cases hlf:n.leaf with
   |true=>
    rw[hlf]at hF2 hon2 hBn hNF hzz
    have hres:En.get n.ents key=ov:=by have:=HGO.out;rw[hlf]at this;simpa using this
    have hrt:En.right n.ents=true:=by
     obtain⟨hr,_⟩:=Tp.fits_iff.1 HFIT.out
     obtain⟨leaf,ents,kids,keys⟩:=n
     obtain rfl:leaf=true:=hlf
     exact(Nd.right_leaf.1 hr).1
    have hle:=(fits_small HFIT.out).1
    have HEG:=Lib.hid (eget_any N1 c1 n.ents key _ (LO.below HRN.out.1 (by rw[hlf]at hb2;exact hb2)).ls (by omega) hrt)
    rw[hres]at HEG
    have g0:=hBn.cell 0
    have g1:=hBn.cell 1
    have ln:=hBn.lt
    have HF2:=Lib.hid hF2
    have HON2:=Lib.hid hon2
    clear hb2 hon1 hon2 hf1 rn hBn hNF hF2 hres hrt hlf
    cases ov with
    |none=>
     go_wp2_with fail
     refine HEG.out.mono ?_
     rintro e w3 ⟨rfl,hb3⟩
     have HEND:=Lib.hid (show On S B t u TM root 0 r σ w3/\Fr S w w3 from⟨(HON2.out.below HM.out hb3).less HM.out (by omega),HF2.out.trans (.of_below hb3)⟩)
     clear hb3
     go_wp2
     go_ret3
     exact⟨rfl,HEND.out.1,HEND.out.2⟩
    |some val=>
     go_wp2_with fail
     refine HEG.out.mono ?_
     rintro e w3 ⟨rfl,hb3⟩
     have HEND:=Lib.hid (show On S B t u TM root 0 r σ w3/\Fr S w w3 from⟨(HON2.out.below HM.out hb3).less HM.out (by omega),HF2.out.trans (.of_below hb3)⟩)
     clear hb3
     go_wp2
     go_ret3
     exact⟨rfl,HEND.out.1,HEND.out.2⟩
   |false=>
    rw[hlf]at hF2 hon2 hBn hNF hzz hb2
    have hgo2:Tp.pFind disk σ key f (n.kids.getD (Nd.child n.keys key) 0)= .ok ov:=by have:=HGO.out;rw[hlf]at this;simpa using this
    have hks:Nd.KSrt n.keys/\n.keys.length+1=n.kids.length:=by
     obtain⟨hr,_⟩:=Tp.fits_iff.1 HFIT.out
     obtain⟨leaf,ents,kids,keys⟩:=n
     obtain rfl:leaf=false:=hlf
     exact⟨((Nd.keys_iff keys).1 (Nd.right_inner.1 hr).2.2.2).2,(Nd.right_inner.1 hr).2.1⟩
    have hci:=Nd.child_le n.keys key
    have hkl:n.kids.length<=100000:=(fits_nb HFIT.out).i
    obtain⟨i,hi⟩:∃i,i=Nd.child n.keys key:=⟨_,rfl⟩
    have HCH:=Lib.hid (fun W hbW=>nchild_any (.agg #[.bool false, .slice N1 n.ents.length c1, .slice N2 n.kids.length c2, .slice N3 n.keys.length c3]) n key W (NF.below hNF hbW).ns (fits_nb HFIT.out) hks.1)
    rw[<-hi]at HCH hci hgo2
    have hik:i<n.kids.length:=by have:=hks.2;omega
    have hge:n.kids.getD i 0=n.kids[i]'hik:=by simp[List.getD,hik]
    rw[hge]at hgo2
    obtain⟨bb,oo,rfl,hbb,gk⟩:=HRN.out.2.1.ls.int hik
    have gk2:=(hb2.cell (p:=⟨bb,oo+i,none⟩) hbb).trans gk
    have HGO2:=Lib.hid hgo2
    have hidx:(i:Int)<n.kids.length:=by omega
    have g0:=hBn.cell 0
    have ln:=hBn.lt
    have HBn:=Lib.hid hBn
    have HF2:=Lib.hid hF2
    have HON2:=Lib.hid hon2
    clear hb2 hon1 hon2 hf1 rn hBn hNF hF2 hgo2 hks hlf hci hi hge gk
    go_wp2_with fail
    generalize (w1.alloc (.cells #[.bool false, .slice N1 n.ents.length c1, .slice (some ⟨bb,oo,none⟩) n.kids.length c2, .slice N3 n.keys.length c3] 32))=w2 at*
    refine wp_region_flow (base:=w2.heap.size) (fun uu=>⟨#[_,_,_,_,_,_,_,uu 7,_,_,_,_,_,_,_,_,_,_,_,_,_,_,_,_,_,_,_,_,_,_,_,_,_,_,_,_,_,_,_,_,_,_,_,_,_,_,_,_,_,_,_,uu 0,uu 1,uu 2,uu 3,uu 4,uu 5,uu 6],_⟩)
     [Is.eq _ (.pointer (some ⟨w1.heap.size,2,none⟩)),Is.eq _ (.slice (some ⟨bb,oo,none⟩) n.kids.length c2),Is.eq _ (.agg #[.bool false, .slice N1 n.ents.length c1, .slice (some ⟨bb,oo,none⟩) n.kids.length c2, .slice N3 n.keys.length c3]),Is.eq _ (.string key),Is.eq _ (.int .i64 (i:Nat)),Is.eq _ (.pointer (some ⟨bb,oo+i,none⟩)),Is.eq _ (.int .i64 (n.kids[i]'hik)),Is.eq _ (.int .i64 (n.kids[i]'hik))]
     (by kernel_rfl) (by kernel_rfl) (by kernel_rfl) [] rfl (Nat.le_refl _) (by simp) (by simp) ⟨fun k=>if k=7 then .int .i64 idi else(#[u51,u52,u53,u54,u55,u56,u57]:Array Value).getD k undef,rfl⟩ ?_ ?_
    ·intro k o ho uu W hf hold hdep
     have hfb:Below w2.heap.size w2 W:=hf.low (Nat.le_refl _) (fun k a=>by simp at a)
     have hBW:=HBn.out.below hfb ln
     have cW:=hBW.cell 2
     match k,ho with
     |0,ho=>obtain rfl:=Option.some.inj ho;exact Does.val (op_fan2 rfl rfl) ⟨rfl,rfl,Fr.refl _⟩
     |1,ho=>obtain rfl:=Option.some.inj ho;exact Does.val (op_ld_ints rfl (hdep 0 rfl) cW) ⟨rfl,rfl,Fr.refl _⟩
     |2,ho=>obtain rfl:=Option.some.inj ho;exact Does.val (op_ld_row node_struct rfl rfl hBW rfl) ⟨rfl,rfl,Fr.refl _⟩
     |3,ho=>obtain rfl:=Option.some.inj ho;exact Does.val (op_mv rfl rfl) ⟨rfl,rfl,Fr.refl _⟩
     |4,ho=>
      obtain rfl:=Option.some.inj ho
      refine Does.call (op_call2 ent_child rfl (hdep 2 rfl) (hdep 3 rfl)) (Calls.mono (HCH.out W hfb) ?_)
      rintro e w' ⟨rfl,hb'⟩
      exact⟨_,rfl,rfl,rfl, .of_below hb'⟩
     |5,ho=>obtain rfl:=Option.some.inj ho;exact Does.val (op_ia_ints rfl (hdep 1 rfl) (hdep 4 rfl) hik) ⟨rfl,rfl,Fr.refl _⟩
     |6,ho=>obtain rfl:=Option.some.inj ho;exact Does.val (op_ldint rfl (hdep 5 rfl) ((hfb.cell (p:=⟨bb,oo+i,none⟩) (show bb<w2.heap.size by omega)).trans gk2)) ⟨rfl,rfl,Fr.refl _⟩
     |7,ho=>obtain rfl:=Option.some.inj ho;exact Does.val (op_as rfl (hdep 6 rfl)) ⟨rfl,rfl,Fr.refl _⟩
     |n+8,ho=>exact absurd ho (by simp)
    ·intro uu W hf hall
     have e7:uu 7= .int .i64 (n.kids[i]'hik):=hall 7 (by decide)
     simp only[e7]
     have hfb:Below w2.heap.size w2 W:=hf.low (Nat.le_refl _) (fun k a=>by simp at a)
     have HON3:=Lib.hid (HON2.out.below HM.out hfb)
     have HF3:=Lib.hid (HF2.out.trans (.of_below hfb))
     clear hall hf hfb e7
     go_wp2
     go_roundg f
     case measure=>omega
     case rel=>exact⟨d+1,f,_,rfl,by go_num,by omega,Nat.le_refl _,HGO2,HON3,HF3⟩
end
section
variable {S:Nat->Prop}{B t:Nat}{room:Int}{disk:Tp.Disk}{TM:Nat->Tp.Pst->World->Prop}
theorem put_do{gk gv:Nat}(k v:ByteArray)(hm:En.may k v=true)(hgk:¬S gk)(hgv:¬S gv):DoFn S 86 #[.pointer (some ⟨gk,0,none⟩), .pointer (some ⟨gv,0,none⟩)] (Tp.gPut k v) (fun W=>Blk W gk 9 #[.string k]/\Blk W gv 9 #[.string v]) where
 keep:=fun h hf=>⟨hf.blk h.1 hgk,hf.blk h.2 hgv⟩
 enters:=fun args w=>by kernel_rfl
 size:=fun l hl=>by have:=(Tp.gPut_op hm).size l;omega
 call:=fun w A c l hP hsv hl=>by
  have hE:=Lib.hid (eput_any A c l k v w hsv (by omega))
  have h1:=hP.1.cell 0
  have h2:=hP.2.cell 0
  have l1:=hP.1.lt
  have l2:=hP.2.lt
  have hq:putS l k v=Tp.gPut k v l:=rfl
  rw[hq]at hE
  generalize Tp.gPut k v l=o at*
  clear hP hq
  show Calls Tryz.prog 86 #[.slice A l.length c, .pointer (some ⟨gk,0,none⟩), .pointer (some ⟨gv,0,none⟩)] w _
  go_enter Tryz.func86,Tryz.ntmps86
  go_wp2_with fail
  refine hE.out.mono ?_
  rintro e w1 ⟨A',c',rfl,hs1,hb1⟩
  have H1:=Lib.hid hs1
  clear hs1
  go_wp2
  go_ret
  exact⟨A',c',rfl,H1.out,hb1⟩
theorem del_do{gk:Nat}(k:ByteArray)(hgk:¬S gk):DoFn S 131 #[.pointer (some ⟨gk,0,none⟩)] (Tp.gDel k) (fun W=>Blk W gk 9 #[.string k]) where
 keep:=fun h hf=>hf.blk h hgk
 enters:=fun args w=>by kernel_rfl
 size:=fun l hl=>by have:=(Tp.gDel_op k).size l;omega
 call:=fun w A c l hP hsv hl=>by
  have hE:=Lib.hid (edel_any A c l k w hsv (by omega))
  have h1:=Blk.cell hP 0
  have l1:=Blk.lt hP
  have hq:delS l k=Tp.gDel k l:=rfl
  rw[hq]at hE
  generalize Tp.gDel k l=o at*
  clear hP hq
  show Calls Tryz.prog 131 #[.slice A l.length c, .pointer (some ⟨gk,0,none⟩)] w _
  go_enter Tryz.func131,Tryz.ntmps131
  go_wp2_with fail
  refine hE.out.mono ?_
  rintro e w1 ⟨A',c',rfl,hs1,hb1⟩
  have H1:=Lib.hid hs1
  clear hs1
  go_wp2
  go_ret
  exact⟨A',c',rfl,H1.out,hb1⟩
theorem ctput_may(M:Mach S B t room disk TM)(u:Nat)(root:Int)(k v:ByteArray)(hm:En.may k v=true)(r:Nat)(σ:Tp.Pst)(h3:(Tp.pUpdate room disk (Tp.gPut k v) k σ root).1≠ .error 3)(w:World)(h:On S B t u TM root 0 (r+48+192) σ w):
  Calls Tryz.prog 27 #[.pointer (some ⟨u,0,none⟩), .string k, .string v] w (UpEnd S B t u TM root r (Tp.pUpdate room disk (Tp.gPut k v) k σ root) w):=by
 have hsz:=M.size h.tm
 have hb1:=(Below.refl w.heap.size w).alloc (Nat.le_refl _) (.cells #[.string k] 9)
 have hb2:=hb1.alloc hb1.size (.cells #[.string v] 9)
 have hon:=(h.below M hb1).below M (Below.alloc (Below.refl _ _) (Nat.le_refl _) (.cells #[.string v] 9))
 have hBk:=(Blk.new w 9 #[.string k]).alloc (.cells #[.string v] 9)
 have hBv:=Blk.new (w.alloc (.cells #[.string k] 9)) 9 #[.string v]
 simp only[World.size_alloc]at hBv
 have HUP:=Lib.hid (update_any M u root (put_do k v hm (M.far hsz) (M.far (show B<=w.heap.size+1 by omega))) k r σ h3 _ ⟨hBk,hBv⟩ hon)
 have k0:((w.alloc (.cells #[.string k] 9)).alloc (.cells #[.string v] 9)).cell? ⟨w.heap.size,0,none⟩=some (.string k):=hBk.cell 0
 have kl:=hBk.lt
 have v0:((w.alloc (.cells #[.string k] 9)).alloc (.cells #[.string v] 9)).cell? ⟨w.heap.size+1,0,none⟩=some (.string v):=hBv.cell 0
 have vl:=hBv.lt
 have t2:((w.alloc (.cells #[.string k] 9)).alloc (.cells #[.string v] 9)).cell? ⟨u,2,none⟩=some (.int .i64 0):=hon.self.cell 2
 have lt2:=hon.self.lt
 have hc:=fun W=>hid_calls (check_any k v W)
 rw[chk_yes hm]at hc
 have HB:=Lib.hid hb2
 obtain⟨o,ho⟩:∃o,o=Tp.pUpdate room disk (Tp.gPut k v) k σ root:=⟨_,rfl⟩
 rw[<-ho]at HUP ⊢
 clear hm h hon hb1 hb2 M hBk hBv ho h3
 go_enter Tryz.func27,Tryz.ntmps27
 go_wp2_with fail
 refine(hc _).out.mono ?_
 rintro e _ ⟨rfl,rfl⟩
 go_wp2_with fail
 refine Calls.mono HUP.out ?_
 rintro e w2 ⟨hres,hf⟩
 have HF:=Lib.hid (((Fr.of_below HB.out).trans hf:Fr (fun k=>S k\/k=u) w w2))
 rcases hres with⟨p,hok,rfl,hon2⟩ | ⟨herr,rfl,hon2⟩
 ·have HON2:=Lib.hid hon2
  have HOK:=Lib.hid hok
  clear hon2 hok hf
  go_wp2
  go_ret
  exact⟨.inl ⟨p,HOK.out,rfl,HON2.out⟩,HF.out⟩
 ·have HON2:=Lib.hid hon2
  have HOK:=Lib.hid herr
  clear hon2 herr hf
  go_wp2
  go_ret
  exact⟨.inr ⟨HOK.out,rfl,HON2.out⟩,HF.out⟩
theorem tdel_none(M:Mach S B t room disk TM)(u:Nat)(root:Int)(k:ByteArray)(r:Nat)(σ:Tp.Pst)(hfind:Tp.pFind disk σ k 24 root= .ok none)(w:World)(h:On S B t u TM root 0 (r+48) σ w):
  Calls Tryz.prog 67 #[.pointer (some ⟨u,0,none⟩), .string k] w fun e w'=>e= .returned (.tuple #[.bool false, .int .i64 0])/\On S B t u TM root 0 r σ w'/\Fr S w w':=by
 have hb1:=(Below.refl w.heap.size w).alloc (Nat.le_refl _) (.cells #[.string k] 9)
 have HG:=Lib.hid (tget_any M u root k r σ none hfind _ (h.below M hb1))
 have HB:=Lib.hid hb1
 clear h hb1 M hfind
 go_enter Tryz.func67,Tryz.ntmps67
 go_wp2_with fail
 refine Calls.mono HG.out ?_
 rintro e w2 ⟨rfl,hon,hf⟩
 have HEND:=Lib.hid (And.intro hon ((Fr.of_below HB.out).trans hf:Fr S w w2))
 unfold getV
 clear hon hf
 go_wp2
 go_ret2
 exact⟨rfl,HEND.out.1,HEND.out.2⟩
def DlEnd(S:Nat->Prop)(B t u:Nat)(TM:Nat->Tp.Pst->World->Prop)(root:Int)(r:Nat)(o:Except Int Int × Tp.Pst)(w:World)(e:Ending)(w':World):Prop:=
 ((∃p,o.1= .ok p/\e= .returned (.tuple #[.bool true, .int .i64 0])/\On S B t u TM p 0 r o.2 w')\/(o.1= .error 2/\e= .returned (.tuple #[.bool false, .int .i64 2])/\On S B t u TM root 2 r o.2 w'))/\Fr (fun k=>S k\/k=u) w w'
theorem tdel_some(M:Mach S B t room disk TM)(u:Nat)(root:Int)(k v:ByteArray)(r:Nat)(σ:Tp.Pst)(hfind:Tp.pFind disk σ k 24 root= .ok (some v))(h3:(Tp.pUpdate room disk (Tp.gDel k) k σ root).1≠ .error 3)(w:World)(h:On S B t u TM root 0 (r+48+192+48) σ w):
  Calls Tryz.prog 67 #[.pointer (some ⟨u,0,none⟩), .string k] w (DlEnd S B t u TM root r (Tp.pUpdate room disk (Tp.gDel k) k σ root) w):=by
 have hsz:=M.size h.tm
 have hb1:=(Below.refl w.heap.size w).alloc (Nat.le_refl _) (.cells #[.string k] 9)
 have hBk:=Blk.new w 9 #[.string k]
 have HG:=Lib.hid (tget_any M u root k (r+48+192) σ (some v) hfind _ (h.below M hb1))
 have HUP:=Lib.hid (fun W hP hon=>update_any M u root (del_do k (M.far hsz)) k r σ h3 W hP hon)
 have HB:=Lib.hid hb1
 have HBk:=Lib.hid hBk
 have HM:=Lib.hid M
 obtain⟨o,ho⟩:∃o,o=Tp.pUpdate room disk (Tp.gDel k) k σ root:=⟨_,rfl⟩
 rw[<-ho]at HUP ⊢
 clear h hb1 M hfind ho h3 hBk
 go_enter Tryz.func67,Tryz.ntmps67
 go_wp2_with fail
 refine Calls.mono HG.out ?_
 rintro e w2 ⟨rfl,hon,hf⟩
 have hBk2:=hf.blk HBk.out (HM.out.far hsz)
 have k0:=hBk2.cell 0
 have lk:=hBk2.lt
 have HU2:=Lib.hid (HUP.out w2 hBk2 hon)
 have HF2:=Lib.hid (((Fr.of_below HB.out).trans hf:Fr S w w2))
 unfold getV
 clear hon hf hBk2
 go_wp2_with fail
 refine Calls.mono HU2.out ?_
 rintro e w3 ⟨hres,hf3⟩
 have HF3:=Lib.hid ((HF2.out.more (S':=fun k=>S k\/k=u) (fun _=> .inl)).trans hf3)
 rcases hres with⟨p,hok,rfl,hon2⟩ | ⟨herr,rfl,hon2⟩
 ·have HON2:=Lib.hid hon2
  have HOK:=Lib.hid hok
  clear hon2 hok hf3
  go_wp2
  go_ret2
  exact⟨.inl ⟨p,HOK.out,rfl,HON2.out⟩,HF3.out⟩
 ·have HON2:=Lib.hid hon2
  have HOK:=Lib.hid herr
  have t2:=hon2.self.cell 2
  have ft2:=hon2.self.frozen 2
  have lt2:=hon2.self.lt
  clear hon2 herr hf3
  go_wp2
  go_ret2
  exact⟨.inr ⟨HOK.out,rfl,HON2.out.write HM.out (Fr.set_ (S:=fun k=>k=u) rfl _) (HON2.out.self.set_ 2 (.int .i64 2))⟩,HF3.out.trans ((Fr.set_ (S:=fun k=>k=u) rfl _).more fun _=> .inr)⟩
end
end Go.Proofs.YtjoiajmbfbjnnaaGreatDoor
