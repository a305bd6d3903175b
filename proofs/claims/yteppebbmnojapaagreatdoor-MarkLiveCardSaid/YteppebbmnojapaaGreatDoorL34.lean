/- Part of this proof. -/
import Derived.Test.YteppebbmnojapaaGreatDoorL33
set_option maxRecDepth 100000
set_option maxHeartbeats 8000000
namespace Tp
open Nd En
theorem Ir{subs:List Sub}{m:Nat}(h:∀t∈subs,m<=t.tok):subs.length*m<=toks subs:=by
 induction subs with
 |nil=>simp
 |cons s l ih=>
  rw[lY,List.length_cons,Nat.succ_mul]
  have:=ih fun t ht=>h t (List.mem_cons_of_mem _ ht)
  have:=h s List.mem_cons_self
  omega
theorem ZJ(subs:List Sub)(k:Nat):toks (subs.take k)+toks (subs.drop k)=toks subs:=by rw[<-fQ,List.take_append_drop]
theorem aeI(subs:List Sub)(k:Nat):es_ (subs.take k)++es_ (subs.drop k)=es_ subs:=by rw[<-gI,List.take_append_drop]
theorem acg(subs:List Sub)(k:Nat):aI (subs.take k)++aI (subs.drop k)=aI subs:=by rw[<-dI,List.take_append_drop]
theorem Oz{P:Ht}{v:Int->Option Node}{h:Nat}{lo hi:Option Str}{subs:List Sub}{keys:List Str}(hch:Chain (Tr v h) lo hi subs keys)(_:P=P){t:Sub}(ht:t∈subs):t.id∈aI subs:=by
 obtain⟨l,hh,h1⟩:=fD hch t ht
 exact iR ht (o9 h1)
section
variable {room:Int}{disk:aA}{used:List Run}{σ σ1:Pst}
theorem CZ(hap:ApS room used σ){h:Nat}{v:Int->Option Node}{lo hi:Option Str}{subs:List Sub}{keys:List Str}(hch:Chain (Tr v h) lo hi subs keys)(gy:∀x∈aI subs,Use used σ x):∀i∈subs.map (·.id),2<=i/\i<=4294967295:=fun i hi'=>by
 obtain⟨t,ht,rfl⟩:=List.mem_map.1 hi'
 have:=iC hap (gy _ (Oz (P:=Tr v h) hch rfl ht))
 have:=hap.pg
 omega
theorem jq{v v':Int->Option Node}{h:Nat}{lo hi:Option Str}{subs:List Sub}{keys:List Str}(hv:∀x∈aI subs,v' x=v x)(hch:Chain (Tr v h) lo hi subs keys):Chain (Tr v' h) lo hi subs keys:=
 kQ (fun _ hs _ _ ht=>kR (fun x hx=>hv x (iR hs hx)) ht) hch
theorem KJ(hap:ApS room used σ)(id:Int){h:Nat}{subs:List Sub}{keys:List Str}{lo hi:Option Str}{tok:Nat}{big:Prop}(hch:Chain (Tr (σ.view disk) h) lo hi subs keys)(hk:∀k∈keys,may k ⟨#[]⟩=true)
  (gy:∀x∈aI subs,Use used σ x) (hnd:(aI subs).Nodup) (hid:id ∉ aI subs) (hs:aF keys<=257) (ht:toks subs<=tok) (h6:∀t∈subs,6 ^ h<=t.tok) (hb:big->6 ^ (h+1)<=tok):
  Res room disk used σ (fun x=>x=id\/x∈aI subs) 2 (aC room (fA (ah (subs.map (·.id)) keys)) σ id (ah (subs.map (·.id)) keys)) (fun p σ' ids=>PartsAt (σ'.view disk) (h+1) lo hi p ids (es_ subs) tok big):=by
 have G:=iF (σ.view disk) h
 have hlen:=eG hch
 have hkr:=CZ hap hch gy
 have hks:=(bV G hch).2.2.2.1
 have hml:(subs.map (·.id)).length=subs.length:=List.length_map _
 have hne:(ah (subs.map (·.id)) keys).ents.length+(ah (subs.map (·.id)) keys).kids.length≠0:=by
  show 0+(subs.map (·.id)).length≠0
  omega
 have hfu:fA (ah (subs.map (·.id)) keys)=subs.length+1:=by show 0+(subs.map (·.id)).length+1=_;omega
 rw[hfu]
 by_cases hsz:240<4+aF keys
 ·obtain⟨k,key,k5,k7,hkey,hc,f1,f2⟩:=SG (by rw[hml];exact hlen) hkr hk hks hsz hs
  rw[hml]at k7
  obtain⟨f,hf⟩:∃f,subs.length+1=f+2:=⟨subs.length-1,by omega⟩
  rw[hf]
  rw[<-List.map_take, <-List.map_drop]at hc
  rw[<-List.map_take]at f1
  rw[<-List.map_drop]at f2
  have hto:=FI (disk:=disk) hap f id hne hc f1 f2 (by show 0+((subs.take (k+1)).map (·.id)).length≠0;rw[List.length_map,List.length_take];omega) (by show 0+((subs.drop (k+1)).map (·.id)).length≠0;rw[List.length_map,List.length_drop];omega)
  obtain⟨key',hkey',c1,c2⟩:=FC (i:=k) hch (by omega)
  have e:key'=key:=Option.some.inj (hkey'.symm.trans hkey)
  subst e
  rcases hto with⟨p,ids,e1,s1,n1,l1,pa,pb,rfl,rfl,va,vb⟩ | ⟨e1,s1,l1⟩
  ·have hfr:=s1.frame hap (C:=fun x=>x∈aI subs) gy
   have hkeep:∀x∈aI subs,(aC room (f+2) σ id (ah (subs.map (·.id)) keys)).2.view disk x=σ.view disk x:=fun x hx=>s1.keep x (fun e=>hid (e ▸ hx)) (gy x hx)
   have hnew:∀x∈aI subs,x≠pa/\x≠pb:=fun x hx=>by
    have:=s1.apart (gy x hx) (fun e=>hid (e ▸ hx))
    simp only[List.mem_cons,List.not_mem_nil,or_false,not_or]at this
    exact this
   generalize aC room (f+2) σ id (ah (subs.map (·.id)) keys)=r at*
   have agQ:pa≠pb:=by simpa using n1
   have htd:=ZJ subs (k+1)
   have hta:=Ir (subs:=subs.take (k+1)) (m:=6 ^ h) (fun t ht=>h6 t (List.mem_of_mem_take ht))
   have htb:=Ir (subs:=subs.drop (k+1)) (m:=6 ^ h) (fun t ht=>h6 t (List.mem_of_mem_drop ht))
   rw[List.length_take]at hta
   rw[List.length_drop]at htb
   have hm6:6*6 ^ h=6 ^ (h+1):=by rw[Nat.pow_succ,Nat.mul_comm]
   have ha6:6 ^ (h+1)<=toks (subs.take (k+1)):=by
    rw[<-hm6];exact Nat.le_trans (Nat.mul_le_mul_right _ (by omega)) hta
   have hb6:6 ^ (h+1)<=toks (subs.drop (k+1)):=by
    rw[<-hm6];exact Nat.le_trans (Nat.mul_le_mul_right _ (by omega)) htb
   have aaP:=acg subs (k+1)
   have hmem:∀x,x∈aI subs ↔ x∈aI (subs.take (k+1))\/x∈aI (subs.drop (k+1)):=fun x=>by rw[<-aaP,List.mem_append]
   have yA:=hnd
   rw[<-aaP,List.nodup_append]at yA
   refine .inl ⟨_,pa::aI (subs.take (k+1))++pb::aI (subs.drop (k+1)),e1,hfr.congr (fun _=>Iff.rfl) (fun x=> ?_), ?_,l1, .inr ⟨[⟨pa,pa::aI (subs.take (k+1)),es_ (subs.take (k+1)),tok-toks (subs.drop (k+1))⟩,⟨pb,pb::aI (subs.drop (k+1)),es_ (subs.drop (k+1)),toks (subs.drop (k+1))⟩],rfl,(by show _=(pa::aI (subs.take (k+1)))++((pb::aI (subs.drop (k+1)))++ []);rw[List.append_nil]),(by show es_ subs=es_ (subs.take (k+1))++(es_ (subs.drop (k+1))++ []);rw[List.append_nil,aeI]),(by simp only[lY];show _+(_+0)<=tok;omega),aJ.2 ⟨⟨subs.take (k+1),keys.take k,va,f1,rfl,rfl,by show _<=tok-_;omega,fun t ht=>h6 t (List.mem_of_mem_take ht), ?_⟩,⟨subs.drop (k+1),keys.drop (k+1),vb,f2,rfl,rfl,Nat.le_refl _,fun t ht=>h6 t (List.mem_of_mem_drop ht), ?_⟩⟩,fun y hy=> ?_,by simp,fun _ t ht=> ?_⟩⟩
   ·simp only[List.mem_append,List.mem_cons,List.not_mem_nil,or_false,hmem]
    constructor
    ·rintro((h1 | h1) | ⟨h1 | h1,_⟩)
     ·exact .inl (.inl h1)
     ·exact .inr (.inl h1)
     ·exact .inl (.inr h1)
     ·exact .inr (.inr h1)
    ·rintro((h1 | h1) | (h1 | h1))
     ·exact .inl (.inl h1)
     ·exact .inr ⟨.inl h1,fun e=>hid (e ▸ (hmem x).2 (.inl h1))⟩
     ·exact .inl (.inr h1)
     ·exact .inr ⟨.inr h1,fun e=>hid (e ▸ (hmem x).2 (.inr h1))⟩
   ·rw[List.nodup_append,List.nodup_cons,List.nodup_cons]
    refine⟨⟨fun hx=>(hnew pa ((hmem pa).2 (.inl hx))).1 rfl,yA.1⟩,⟨fun hx=>(hnew pb ((hmem pb).2 (.inr hx))).2 rfl,yA.2.1⟩,fun x hx y hy=> ?_⟩
    rcases List.mem_cons.1 hx with rfl | hx<;>rcases List.mem_cons.1 hy with rfl | hy
    ·exact agQ
    ·exact fun e=>(hnew y ((hmem y).2 (.inr hy))).1 e.symm
    ·exact(hnew x ((hmem x).2 (.inl hx))).2
    ·exact yA.2.2 x hx y hy
   ·exact jq (fun x hx=>hkeep x ((hmem x).2 (.inl hx))) c1
   ·exact jq (fun x hx=>hkeep x ((hmem x).2 (.inr hx))) c2
   ·rw[List.mem_singleton]at hy;subst hy
    exact hk _ (List.mem_of_getElem? hkey')
   ·simp only[List.mem_cons,List.not_mem_nil,or_false]at ht
    rcases ht with rfl | rfl
    ·show _<=tok-_
     omega
    ·exact hb6
  ·exact .inr ⟨e1,s1,l1⟩
 ·have hfit:fits (ah (subs.map (·.id)) keys)=true:=bf.2 ⟨je (by rw[hml];exact hlen) hkr hk hks,by show 4+aF keys<=240;omega⟩
  have ho:=store_one (disk:=disk) hap subs.length id hne hfit
  rcases ho with⟨p,ids,e1,s1,n1,l1,pg,rfl,rfl,v1⟩ | ⟨e1,s1,l1⟩
  ·have hfr:=s1.frame hap (C:=fun x=>x∈aI subs) gy
   have hkeep:∀x∈aI subs,(aC room (subs.length+1) σ id (ah (subs.map (·.id)) keys)).2.view disk x=σ.view disk x:=fun x hx=>s1.keep x (fun e=>hid (e ▸ hx)) (gy x hx)
   have hnew:∀x∈aI subs,x≠pg:=fun x hx=>by
    have:=s1.apart (gy x hx) (fun e=>hid (e ▸ hx))
    simpa using this
   generalize aC room (subs.length+1) σ id (ah (subs.map (·.id)) keys)=r at*
   refine .inl ⟨_,pg::aI subs,e1,hfr.congr (fun _=>Iff.rfl) (fun x=> ?_), ?_,by omega, .inr ⟨[⟨pg,pg::aI subs,es_ subs,tok⟩],rfl,by simp[aI],by simp[es_],by simp[toks],⟨subs,keys,v1,hfit,rfl,rfl,ht,h6,jq hkeep hch⟩,fun y hy=>(by cases hy),by simp,fun hbb t ht=> ?_⟩⟩
   ·simp only[List.mem_cons,List.not_mem_nil,or_false]
    constructor
    ·rintro(h1 | ⟨h1,_⟩)
     ·exact .inl h1
     ·exact .inr h1
    ·rintro(h1 | h1)
     ·exact .inl h1
     ·exact .inr ⟨h1,fun e=>hid (e ▸ h1)⟩
   ·rw[List.nodup_cons];exact⟨fun hx=>hnew pg hx rfl,hnd⟩
   ·rw[List.mem_singleton]at ht;subst ht
    rcases hbb with h1 | h1
    ·exact hb h1
    ·simp at h1
  ·exact .inr ⟨e1,s1,by omega⟩
end
theorem Xq{v:Int->Option Node}{h:Nat}{lo hi:Option Str}{s:Sub}(hs:Tr v h lo hi s):s.ids=s.id::s.ids.tail:=by
 cases h with
 |zero=>rw[hs.2.1];rfl
 |succ h=>
  obtain⟨subs,keys,a,b,c,_⟩:=hs
  rw[c];rfl
theorem Ak{v:Int->Option Node}{h:Nat}{lo hi:Option Str}{s:Sub}(hs:Tr v h lo hi s):∃n,v s.id=some n/\fits n=true/\n.leaf=decide (h=0):=by
 cases h with
 |zero=>exact⟨_,hs.1,hs.2.2.1,rfl⟩
 |succ h=>
  obtain⟨subs,keys,a,b,c,_⟩:=hs
  exact⟨_,a,b,rfl⟩
theorem ZK{v v':Int->Option Node}{h:Nat}{l hh:Option Str}{k:Str}{a b:Sub}{na nb:Node}{page:Int}(ha:Tr v h l (some k) a)(hb:Tr v h (some k) hh b)(hna:v a.id=some na)(hnb:v b.id=some nb)
  (hf:fits (join na k nb)=true) (hp:v' page=some (join na k nb)) (hv:∀x∈a.ids.tail++b.ids.tail,v' x=v x):Tr v' h l hh ⟨page,page::(a.ids.tail++b.ids.tail),a.es++b.es,a.tok+b.tok⟩:=by
 have G:=iF v h
 have hch:Chain (Tr v h) l hh [a,b] [k]:=aJ.2 ⟨ha,hb⟩
 have hrg:=bV G hch
 cases h with
 |zero=>
  obtain⟨a1,a2,a3,a4,a5,a6⟩:=ha
  obtain⟨b1,b2,b3,b4,b5,b6⟩:=hb
  rw[a1]at hna
  rw[b1]at hnb
  injection hna with hna
  injection hnb with hnb
  subst hna hnb
  have hj:join (aG a.es) k (aG b.es)=aG (a.es++b.es):=rfl
  rw[hj]at hf hp
  refine⟨hp,by rw[a2,b2];rfl,hf, ?_, ?_,by show(a.es++b.es).length<=a.tok+b.tok;rw[List.length_append];omega⟩
  ·show a.es++b.es≠ []
   simp[a4]
  ·have:=hrg.2.1
   simpa[es_]using this
 |succ h=>
  obtain⟨sa,ka,a1,a2,a3,a4,a5,a6,a7⟩:=ha
  obtain⟨sb,kb,b1,b2,b3,b4,b5,b6,b7⟩:=hb
  rw[a1]at hna
  rw[b1]at hnb
  injection hna with hna
  injection hnb with hnb
  subst hna hnb
  have hj:join (ah (sa.map (·.id)) ka) k (ah (sb.map (·.id)) kb)=ah ((sa++sb).map (·.id)) (ka++k::kb):=by
   unfold join ah
   simp
  rw[hj]at hf hp
  rw[a3,b3]at hv
  simp only[List.tail_cons]at hv
  have va:∀x∈aI sa,v' x=v x:=fun x hx=>hv x (List.mem_append_left _ hx)
  have vb:∀x∈aI sb,v' x=v x:=fun x hx=>hv x (List.mem_append_right _ hx)
  refine⟨sa++sb,ka++k::kb,hp,hf,by rw[a3,b3,dI];rfl,by rw[gI];show a.es++b.es=_;rw[a4,b4],by rw[fQ];show _<=a.tok+b.tok;omega,fun t ht=> ?_,vG (jq va a7) (jq vb b7)⟩
  rcases List.mem_append.1 ht with ht | ht
  ·exact a6 t ht
  ·exact b6 t ht
section
variable {room:Int}{disk:aA}{used:List Run}{σ:Pst}
theorem pI(hap:ApS room used σ){C:Int->Prop}(hC:∀x,C x->Use used σ x):Step room disk used σ C σ C:=
 ((Step.adE (disk:=disk) hap).frame hap hC).congr (fun x=>by simp) (fun x=>by simp)
theorem ach{n:Node}{i:Nat}(hi:i<n.kids.length)(h2:1<n.kids.length):sib n i+1<n.kids.length:=by
 unfold sib
 split<;>omega
def Xr(disk:aA)(h:Nat)(lo hi:Option Str)(subs:List Sub)(keys:List Str)(n':Node)(σ':Pst)(ids:List Int):Prop:=
 ∃uF keys',n'=ah (uF.map (·.id)) keys'/\ids=aI uF/\es_ uF=es_ subs/\toks uF=toks subs/\Chain (Tr (σ'.view disk) h) lo hi uF keys'/\(∀k∈keys',k∈keys)/\aF keys'<=aF keys/\(∀t∈uF,6 ^ h<=t.tok)
theorem ZL(hap:ApS room used σ){h:Nat}{subs:List Sub}{keys:List Str}{lo hi:Option Str}(hch:Chain (Tr (σ.view disk) h) lo hi subs keys)
  (gy:∀x∈aI subs,Use used σ x) (hnd:(aI subs).Nodup) {i d:Nat} (hi':i<subs.length) (h2:1<subs.length) (hd:d<24) (h6:∀t∈subs,6 ^ h<=t.tok):
  Res room disk used σ (fun x=>x∈aI subs) 1 (iE room disk σ (ah (subs.map (·.id)) keys) i d) (Xr disk h lo hi subs keys):=by
 have hml:(ah (subs.map (·.id)) keys).kids.length=subs.length:=List.length_map _
 have same:Res room disk used σ (fun x=>x∈aI subs) 1 (.ok (ah (subs.map (·.id)) keys),σ) (Xr disk h lo hi subs keys):=
  .inl ⟨_,aI subs,rfl,pI hap gy,hnd,Nat.le_succ _,subs,keys,rfl,rfl,rfl,rfl,hch,fun _ h=>h,Nat.le_refl _,h6⟩
 obtain⟨j,hj⟩:∃j,j=sib (ah (subs.map (·.id)) keys) i:=⟨_,rfl⟩
 have hj1:j+1<subs.length:=by rw[hj, <-hml];exact ach (by rw[hml];exact hi') (by rw[hml];exact h2)
 unfold iE
 rw[if_neg (by omega), <-hj]
 have Ij:∀m (hm:m<subs.length),(ah (subs.map (·.id)) keys).kids.getD m 0=(subs[m]).id:=fun m hm=>by
  show(subs.map (·.id)).getD m 0=_
  rw[List.getD_eq_getElem?_getD,List.getElem?_map,List.getElem?_eq_getElem hm];rfl
 rw[Ij i hi',Ij j (by omega),Ij (j+1) hj1]
 obtain⟨l0,h0,t0⟩:=fD hch _ (List.getElem_mem hi')
 obtain⟨nk,ek,_,_⟩:=Ak t0
 rw[ek]
 simp only
 by_cases hsz:80<=size nk
 ·rw[if_pos hsz];exact same
 rw[if_neg hsz]
 obtain⟨l,hh,k,hkey,ta,tb,hrep⟩:=FH (iF _ _) hch hj1
 obtain⟨na,ea,fa,la⟩:=Ak ta
 obtain⟨nb,eb,fb,lb⟩:=Ak tb
 rw[ea]
 simp only
 rw[eb]
 simp only
 have hkd:(ah (subs.map (·.id)) keys).keys.getD j ⟨#[]⟩=k:=by
  show keys.getD j ⟨#[]⟩=k
  rw[List.getD_eq_getElem?_getD,hkey];rfl
 rw[hkd]
 by_cases hc:(na.leaf != nb.leaf)=true\/fits (join na k nb)=false
 ·rw[if_pos hc];exact same
 rw[if_neg hc]
 have hf:fits (join na k nb)=true:=by
  cases hff:fits (join na k nb)with
  |true=>rfl
  |false=>exact absurd (.inr hff) hc
 have hja:subs[j]'(by omega)∈subs:=List.getElem_mem _
 have hjb:subs[j+1]∈subs:=List.getElem_mem _
 have hsp:subs=subs.take j++(subs[j]'(by omega)::subs[j+1]::subs.drop (j+2)):=by
  rw[<-List.drop_eq_getElem_cons, <-List.drop_eq_getElem_cons,List.take_append_drop]
 have ia:=Xq ta
 have ib:=Xq tb
 have KL:aI subs=aI (subs.take j)++(((subs[j]'(by omega)).id::(subs[j]'(by omega)).ids.tail)++((subs[j+1].id::subs[j+1].ids.tail)++aI (subs.drop (j+2)))):=by
  conv=>lhs;rw[hsp]
  rw[dI,wU,wU, <-ia, <-ib]
 have C9:es_ subs=es_ (subs.take j)++((subs[j]'(by omega)).es++(subs[j+1].es++es_ (subs.drop (j+2)))):=by
  conv=>lhs;rw[hsp]
  rw[gI,kE,kE]
 have aeJ:toks subs=toks (subs.take j)+((subs[j]'(by omega)).tok+(subs[j+1].tok+toks (subs.drop (j+2)))):=by
  conv=>lhs;rw[hsp]
  rw[fQ,lY,lY]
 have ma:(subs[j]'(by omega)).id∈aI subs:=iR hja (o9 ta)
 have mb:subs[j+1].id∈aI subs:=iR hjb (o9 tb)
 have ua:=gy _ ma
 have ub:=gy _ mb
 have h6a:=h6 _ hja
 have hmt:∀s,(s∈subs.take j\/s∈subs.drop (j+2))->s∈subs:=fun s hs=>by
  rcases hs with hs | hs
  ·exact List.mem_of_mem_take hs
  ·exact List.mem_of_mem_drop hs
 generalize subs[j]'(by omega)=a at*
 generalize subs[j+1]=b at*
 have yA:=hnd
 rw[KL,List.nodup_append,List.nodup_append,List.nodup_append,List.nodup_cons,List.nodup_cons]at yA
 obtain⟨nd1,⟨⟨na1,na2⟩,⟨⟨nb1,nb2⟩,nd3,nb4⟩,nab⟩,nd4⟩:=yA
 have hab:a.id≠b.id:=nab a.id List.mem_cons_self b.id (List.mem_append_left _ List.mem_cons_self)
 cases hs:dY room σ a.id (join na k nb)with
 |mk r σ1=>
  cases r with
  |error e=>
   obtain⟨rfl,rfl,g3⟩:=JQ hap hf hs
   exact .inr ⟨rfl,hap,by omega⟩
  |ok page=>
   obtain⟨s1,v1,_,l1⟩:=Hr (disk:=disk) hap hs
   obtain⟨s2,l2⟩:=drop_step (disk:=disk) s1.ap b.id
   have hpb:page≠b.id:=fun e=>s1.apart ub (fun h=>hab h.symm) e.symm
   have hst:=((s1.comp s2).frame hap (C:=fun x=>x∈aI subs) gy).congr (A':=fun x=>x∈aI subs) (fun x=>by
    constructor
    ·rintro((h1 | ⟨h1,_⟩) | h1)
     ·exact h1 ▸ ma
     ·exact h1 ▸ mb
     ·exact h1
    ·exact .inr) (fun _=>Iff.rfl)
   have hkeep:∀x,x∈aI subs->x≠a.id->x≠b.id->(dK σ1 b.id).view disk x=σ.view disk x:=fun x hx h1 h2=>by
    rw[s2.keep x h2 (s1.use (gy x hx) h1),s1.keep x h1 (gy x hx)]
   have hpn:∀x∈aI subs,x≠a.id->x≠page:=fun x hx h1=>s1.apart (gy x hx) h1
   have vp:(dK σ1 b.id).view disk page=some (join na k nb):=by rw[s2.keep page hpb (s1.got rfl)];exact v1
   have rest:∀x,(x∈aI (subs.take j)\/x∈a.ids.tail\/x∈b.ids.tail\/x∈aI (subs.drop (j+2))) ↔ (x∈aI subs/\x≠a.id/\x≠b.id):=fun x=>by
    rw[KL]
    simp only[List.mem_append,List.mem_cons]
    constructor
    ·rintro(h1 | h1 | h1 | h1)
     ·exact⟨.inl h1,nd4 x h1 _ (List.mem_append_left _ List.mem_cons_self),nd4 x h1 _ (List.mem_append_right _ (List.mem_append_left _ List.mem_cons_self))⟩
     ·exact⟨.inr (.inl (.inr h1)),fun e=>na1 (e ▸ h1),nab x (List.mem_cons_of_mem _ h1) _ (List.mem_append_left _ List.mem_cons_self)⟩
     ·exact⟨.inr (.inr (.inl (.inr h1))),fun e=>nab a.id List.mem_cons_self x (List.mem_append_left _ (List.mem_cons_of_mem _ h1)) e.symm,fun e=>nb1 (e ▸ h1)⟩
     ·exact⟨.inr (.inr (.inr h1)),fun e=>nab a.id List.mem_cons_self x (List.mem_append_right _ h1) e.symm,fun e=>nb4 b.id List.mem_cons_self x h1 e.symm⟩
    ·rintro⟨h1,h2,h3⟩
     rcases h1 with h1 | (h1 | h1) | (h1 | h1) | h1
     ·exact .inl h1
     ·exact absurd h1 h2
     ·exact .inr (.inl h1)
     ·exact absurd h1 h3
     ·exact .inr (.inr (.inl h1))
     ·exact .inr (.inr (.inr h1))
   have hnew:Tr ((dK σ1 b.id).view disk) h l hh ⟨page,page::(a.ids.tail++b.ids.tail),a.es++b.es,a.tok+b.tok⟩:=
    ZK ta tb ea eb hf vp (fun x hx=>by
     have hr:=(rest x).1 (by
      rcases List.mem_append.1 hx with hx | hx
      ·exact .inr (.inl hx)
      ·exact .inr (.inr (.inl hx)))
     exact hkeep x hr.1 hr.2.1 hr.2.2)
   have TN:aI (subs.take j++ [⟨page,page::(a.ids.tail++b.ids.tail),a.es++b.es,a.tok+b.tok⟩]++subs.drop (j+2))=aI (subs.take j)++((page::(a.ids.tail++b.ids.tail))++aI (subs.drop (j+2))):=by
    rw[dI,dI,List.append_assoc]
    simp[aI]
   have hpr:∀x,(x∈aI (subs.take j)\/x∈a.ids.tail\/x∈b.ids.tail\/x∈aI (subs.drop (j+2)))->x≠page:=fun x hx=>by
    have hr:=(rest x).1 hx
    exact hpn x hr.1 hr.2.1
   refine .inl ⟨_,aI (subs.take j++ [⟨page,page::(a.ids.tail++b.ids.tail),a.es++b.es,a.tok+b.tok⟩]++subs.drop (j+2)),rfl,hst.congr (fun _=>Iff.rfl) (fun x=> ?_), ?_,by show(dK σ1 b.id).mine.length<=_;omega,
    subs.take j++ [⟨page,page::(a.ids.tail++b.ids.tail),a.es++b.es,a.tok+b.tok⟩]++subs.drop (j+2),keys.take j++keys.drop (j+1), ?_,rfl, ?_, ?_,hrep _ _ (fun s hs l' h' ht=>kR (fun x hx=> ?_) ht) hnew, ?_, ?_, ?_⟩
   ·rw[TN]
    have hr:=rest x
    simp only[List.mem_append,List.mem_cons]
    constructor
    ·rintro((⟨h1,_⟩ | h1) | ⟨h1,h2⟩)
     ·exact .inr (.inl (.inl h1))
     ·exact h1.elim
     ·have h3:=hr.2 ⟨h1,fun e=>h2 (.inl e),fun e=>h2 (.inr ⟨e,fun e2=>hpb (e2.symm.trans e)⟩)⟩
      rcases h3 with h3 | h3 | h3 | h3
      ·exact .inl h3
      ·exact .inr (.inl (.inr (.inl h3)))
      ·exact .inr (.inl (.inr (.inr h3)))
      ·exact .inr (.inr h3)
    ·intro h1
     have h2:x=page\/(x∈aI (subs.take j)\/x∈a.ids.tail\/x∈b.ids.tail\/x∈aI (subs.drop (j+2))):=by
      rcases h1 with h1 | (h1 | h1 | h1) | h1
      ·exact .inr (.inl h1)
      ·exact .inl h1
      ·exact .inr (.inr (.inl h1))
      ·exact .inr (.inr (.inr (.inl h1)))
      ·exact .inr (.inr (.inr (.inr h1)))
     rcases h2 with h2 | h2
     ·exact .inl (.inl ⟨h2,fun e=>hpb (h2.symm.trans e)⟩)
     ·have h3:=hr.1 h2
      exact .inr ⟨h3.1,fun e=>by
       rcases e with e | ⟨e,_⟩
       ·exact h3.2.1 e
       ·exact h3.2.2 e⟩
   ·rw[TN,List.nodup_append,List.nodup_append,List.nodup_cons,List.nodup_append]
    refine⟨nd1,⟨⟨fun hx=> ?_,na2,nb2,fun x hx y hy=>nab x (List.mem_cons_of_mem _ hx) y (List.mem_append_left _ (List.mem_cons_of_mem _ hy))⟩,nd3,fun x hx y hy=> ?_⟩,fun x hx y hy=> ?_⟩
    ·rcases List.mem_append.1 hx with hx | hx
     ·exact hpr page (.inr (.inl hx)) rfl
     ·exact hpr page (.inr (.inr (.inl hx))) rfl
    ·rcases List.mem_cons.1 hx with rfl | hx
     ·exact fun e=>hpr y (.inr (.inr (.inr hy))) e.symm
     ·rcases List.mem_append.1 hx with hx | hx
      ·exact nab x (List.mem_cons_of_mem _ hx) y (List.mem_append_right _ hy)
      ·exact nb4 x (List.mem_cons_of_mem _ hx) y hy
    ·rcases List.mem_append.1 hy with hy | hy
     ·rcases List.mem_cons.1 hy with rfl | hy
      ·exact hpr x (.inl hx)
      ·rcases List.mem_append.1 hy with hy | hy
       ·exact nd4 x hx y (List.mem_append_left _ (List.mem_cons_of_mem _ hy))
       ·exact nd4 x hx y (List.mem_append_right _ (List.mem_append_left _ (List.mem_cons_of_mem _ hy)))
     ·exact nd4 x hx y (List.mem_append_right _ (List.mem_append_right _ hy))
   ·unfold swap
    have hkl:=eG hch
    rw[if_neg (by
     rw[hml]
     show ¬ (false=true\/subs.length<j+2\/j+2<=j\/(0:Nat)≠ [page].length-1)
     simp;omega)]
    show ah ((subs.map (·.id)).take j++ [page]++(subs.map (·.id)).drop (j+2)) (keys.take (if([page]:List Int).length=0/\0<j then j-1 else j)++ []++keys.drop (if([page]:List Int).length=0/\j=0 then min (j+2) keys.length else j+2-1))=_
    rw[if_neg (by simp),if_neg (by simp),List.append_nil,List.map_append,List.map_append,List.map_take,List.map_drop]
    rfl
   ·rw[gI,gI,C9,List.append_assoc]
    simp[es_]
   ·rw[fQ,fQ,aeJ]
    simp[toks];omega
   ·have hin:=hmt s hs
    have hx2:x∈aI (subs.take j)\/x∈aI (subs.drop (j+2)):=by
     rcases hs with hs | hs
     ·exact .inl (iR hs hx)
     ·exact .inr (iR hs hx)
    have hr:=(rest x).1 (by
     rcases hx2 with h1 | h1
     ·exact .inl h1
     ·exact .inr (.inr (.inr h1)))
    exact hkeep x hr.1 hr.2.1 hr.2.2
   ·intro y hy
    rcases List.mem_append.1 hy with hy | hy
    ·exact List.mem_of_mem_take hy
    ·exact List.mem_of_mem_drop hy
   ·rw[bK]
    have e1:aF (keys.take j)+aF (keys.drop j)=aF keys:=by rw[<-bK,List.take_append_drop]
    have e2:aF (keys.drop (j+1))<=aF (keys.drop j):=by
     have hjk:j<keys.length:=(List.getElem?_eq_some_iff.1 hkey).1
     rw[List.drop_eq_getElem_cons hjk,gu];omega
    omega
   ·intro t ht
    rcases List.mem_append.1 ht with ht | ht
    ·rcases List.mem_append.1 ht with ht | ht
     ·exact h6 t (List.mem_of_mem_take ht)
     ·rw[List.mem_singleton]at ht;subst ht
      show _<=a.tok+b.tok
      omega
    ·exact h6 t (List.mem_of_mem_drop ht)
end
structure GOp(g:List En.Ent->List En.Ent)(key:Str):Prop where
 right:∀l,En.right l=true->En.right (g l)=true
 loc:∀a l b,En.right (a++(l++b))=true->(∀x∈a,lt x.1 key=true)->(∀x∈b,lt key x.1=true)->g (a++(l++b))=a++(g l++b)
 inn:∀l x,x∈g l->x∈l\/x.1=key
 size:∀l,aK (g l)<=aK l+58
section
variable {room:Int}{disk:aA}{used:List Run}{σ σ1 σ2:Pst}
theorem Res.mono{α:Type}{A A':Int->Prop}{N N':Nat}{r:Except Int α × Pst}{Q Q':α->Pst->List Int->Prop}(h:Res room disk used σ A N r Q)(hA:∀x,A x ↔ A' x)(hN:N<=N')(hQ:∀a σ' ids,Q a σ' ids->Q' a σ' ids):Res room disk used σ A' N' r Q':=by
 rcases h with⟨a,ids,e1,e2,e3,e4,e5⟩ | ⟨e1,e2,e3⟩
 ·exact .inl ⟨a,ids,e1,e2.congr hA (fun _=>Iff.rfl),e3,by omega,hQ _ _ _ e5⟩
 ·exact .inr ⟨e1,e2,by omega⟩
theorem Step.then_{A B1:Int->Prop}{C:Int->Prop}(h1:Step room disk used σ A σ1 C)(h2:Step room disk used σ1 C σ2 B1):Step room disk used σ A σ2 B1:=
 (h1.comp h2).congr (fun _=>⟨fun h=>h.elim id fun h=>absurd h.1 h.2, .inl⟩) (fun _=>⟨fun h=>h.elim (fun h=>absurd h.1 h.2) id, .inr⟩)
theorem Step.aaQ{A B1:Int->Prop}{C:Int->Prop}{id:Int}(h1:Step room disk used σ A σ1 C)(h2:Step room disk used σ1 (fun x=>x=id\/C x) σ2 B1)(hC:¬C id):Step room disk used σ (fun x=>x=id\/A x) σ2 B1:=
 (h1.comp h2).congr (fun x=>by
  constructor
  ·rintro(h | ⟨h | h,h3⟩)
   ·exact .inr h
   ·exact .inl h
   ·exact absurd h h3
  ·rintro(h | h)
   ·exact .inr ⟨.inl h,h ▸ hC⟩
   ·exact .inl h) (fun x=>by
  constructor
  ·rintro(⟨h,h2⟩ | h)
   ·exact absurd (.inr h) h2
   ·exact h
  ·exact .inr)
theorem FP{A:Int->Prop}{N:Nat}{id:Int}{h:Nat}{subs:List Sub}{keys:List Str}{lo hi:Option Str}{tok i d:Nat}{big:Prop}{p:Part}
  (s1:Step room disk used σ A σ1 (fun x=>x∈aI subs)) (hl:σ1.mine.length<=σ.mine.length+N) (hid:Use used σ id) (agR:¬A id)
  (hch:Chain (Tr (σ1.view disk) h) lo hi subs keys) (hk:∀k∈keys,may k ⟨#[]⟩=true) (hnd:(aI subs).Nodup) (hs:aF keys<=257) (ht:toks subs<=tok) (h6:∀t∈subs,6 ^ h<=t.tok) (hb:big->6 ^ (h+1)<=tok)
  (hi':p.1.length=1->i<subs.length) (hd:d<24):
  Res room disk used σ (fun x=>x=id\/A x) (N+3) (match dU room disk p σ1 (ah (subs.map (·.id)) keys) i d with
   |(.error e,σ2)=>(.error e,σ2)
   |(.ok n2,σ2)=>aC room (fA n2) σ2 id n2) (fun p σ' ids=>PartsAt (σ'.view disk) (h+1) lo hi p ids (es_ subs) tok big):=by
 have gy:∀x∈aI subs,Use used σ1 x:=fun x hx=>s1.got hx
 have Xt:Res room disk used σ1 (fun x=>x∈aI subs) 1 (dU room disk p σ1 (ah (subs.map (·.id)) keys) i d) (Xr disk h lo hi subs keys):=by
  unfold dU
  by_cases hc:p.1.length=1/\1<(ah (subs.map (·.id)) keys).kids.length
  ·rw[if_pos hc]
   have h2:1<subs.length:=by have:=hc.2;rw[show(ah (subs.map (·.id)) keys).kids.length=subs.length from List.length_map _]at this;exact this
   exact ZL s1.ap hch gy hnd (hi' hc.1) h2 hd h6
  ·rw[if_neg hc]
   exact .inl ⟨_,aI subs,rfl,pI s1.ap gy,hnd,Nat.le_succ _,subs,keys,rfl,rfl,rfl,rfl,hch,fun _ h=>h,Nat.le_refl _,h6⟩
 generalize dU room disk p σ1 (ah (subs.map (·.id)) keys) i d=r at*
 obtain⟨r,σ2⟩:=r
 rcases Xt with⟨n2,abB,e1,s2,n2d,l2,uF,keys',rfl,rfl,q1,q2,q3,q4,q5,q6⟩ | ⟨e1,s2,l2⟩
 ·simp only at e1 s2 l2 q3
  subst e1
  simp only
  have s12:=s1.then_ s2
  have WH:id ∉ aI uF:=s12.apart hid agR
  have hst:=KJ (disk:=disk) s12.ap id (tok:=tok) (big:=big) q3 (fun k hk2=>hk k (q4 k hk2)) (fun x hx=>s12.got hx) n2d WH (by omega) (by omega) q6 hb
  generalize aC room (fA (ah (uF.map (·.id)) keys')) σ2 id (ah (uF.map (·.id)) keys')=r3 at*
  rcases hst with⟨p3,agS,e3,s3,n3,l3,q7⟩ | ⟨e3,s3,l3⟩
  ·exact .inl ⟨p3,agS,e3,s12.aaQ s3 WH,n3,by omega,by rw[<-q1];exact q7⟩
  ·exact .inr ⟨e3,s3,by omega⟩
 ·simp only at e1 s2 l2
  subst e1
  exact .inr ⟨rfl,s2,by omega⟩
theorem Dc{subs:List Sub}{i:Nat}(hi:i<subs.length):(subs.map (·.id)).getD i 0=(subs[i]).id:=by
 rw[List.getD_eq_getElem?_getD,List.getElem?_map,List.getElem?_eq_getElem hi];rfl
theorem tu{g:List En.Ent->List En.Ent}{key:Str}(GO:GOp g key)(δ:Nat):∀ (h f:Nat) (σ:Pst) (lo hi:Option Str) (s:Sub) (big:Prop),h<f->f<=24->ApS room used σ->Tr (σ.view disk) h lo hi s->s.ids.Nodup->(∀x∈s.ids,Use used σ x)->qo lo key->oZ hi key->(big->6 ^ h<=s.tok)->(g s.es).length<=s.es.length+δ->
  Res room disk used σ (fun x=>x∈s.ids) (3*(h+1)) (bM room disk g key f σ s.id) (fun p σ' ids=>PartsAt (σ'.view disk) h lo hi p ids (g s.es) (s.tok+δ) big)
 |0,f+1,σ,lo,hi,s,big,_,_,hap,ht,hnd,gy,hk1,hk2,hb,hd=>by
  obtain⟨a1,a2,a3,a4,a5,a6⟩:=ht
  unfold bM
  rw[a1]
  simp only
  rw[if_pos (show(aG s.es).leaf=true from rfl)]
  have hr:=(eP.1 (bf.1 a3).1).1
  have hsz:aK s.es<=240:=(bf.1 a3).2
  have hst:=vH (disk:=disk) hap s.id (l:=g s.es) (lo:=lo) (hi:=hi) (tok:=s.tok+δ) (big:=big) (GO.right _ hr) (fun x hx=>by
   rcases GO.inn _ x hx with h1 | h1
   ·exact a5 x h1
   ·rw[h1];exact⟨hk1,hk2⟩) (by have:=GO.size s.es;omega) (by omega)
  exact hst.mono (fun x=>by rw[a2];simp) (by omega) (fun _ _ _ h=>h)
 |h+1,f+1,σ,lo,hi,s,big,hf,agT,hap,ht,hnd,gy,hk1,hk2,hb,hd=>by
  have G:=iF (σ.view disk) h
  have G1:=iF (σ.view disk) (h+1)
  have hrs:=G1.srt ht
  obtain⟨subs,keys,a1,a2,a3,a4,a5,a6,a7⟩:=ht
  obtain⟨hrt,hsz⟩:=bf.1 a2
  obtain⟨_,r2,_,r4⟩:=aY.1 hrt
  have hkm:=((jd _).1 r4).1
  have hks:=((jd _).1 r4).2
  have hlen:=eG a7
  have hci:=oN keys key
  obtain⟨i,hi0⟩:∃i,i=child keys key:=⟨_,rfl⟩
  have hi':i<subs.length:=by omega
  unfold bM
  rw[a1]
  simp only
  rw[if_neg (show ¬ (ah (subs.map (·.id)) keys).leaf=true by simp[ah])]
  rw[show(ah (subs.map (·.id)) keys).keys=keys from rfl, <-hi0,show(ah (subs.map (·.id)) keys).kids=subs.map (·.id)from rfl,Dc hi']
  obtain⟨l,hh,ti,c1,c2,hrep,hloc,hcb⟩:=wV G a7 hi'
  obtain⟨kl,kh⟩:=hcb key hi0.symm hk1 hk2
  rw[a3,List.nodup_cons]at hnd
  obtain⟨TN,hnd⟩:=hnd
  have hsp:subs=subs.take i++(subs[i]::subs.drop (i+1)):=by rw[<-List.drop_eq_getElem_cons,List.take_append_drop]
  have KL:aI subs=aI (subs.take i)++((subs[i]).ids++aI (subs.drop (i+1))):=by
   conv=>lhs;rw[hsp]
   rw[dI,wU]
  have C9:es_ subs=es_ (subs.take i)++((subs[i]).es++es_ (subs.drop (i+1))):=by
   conv=>lhs;rw[hsp]
   rw[gI,kE]
  have aeJ:toks subs=toks (subs.take i)+((subs[i]).tok+toks (subs.drop (i+1))):=by
   conv=>lhs;rw[hsp]
   rw[fQ,lY]
  have hi6:=a6 _ (List.getElem_mem hi')
  have yA:=hnd
  rw[KL,List.nodup_append,List.nodup_append]at yA
  obtain⟨nd1,⟨nd2,nd3,nd4⟩,nd5⟩:=yA
  have hmi:∀x∈(subs[i]).ids,x∈aI subs:=fun x hx=>iR (List.getElem_mem hi') hx
  have hui:∀x∈aI subs,Use used σ x:=fun x hx=>gy x (by rw[a3];exact List.mem_cons_of_mem _ hx)
  have hus:Use used σ s.id:=gy s.id (by rw[a3];exact List.mem_cons_self)
  have hge:g s.es=es_ (subs.take i)++(g (subs[i]).es++es_ (subs.drop (i+1))):=by
   rw[a4,C9]
   refine GO.loc _ _ _ (by rw[<-C9, <-a4];exact hrs) (hloc key kl kh).1 (hloc key kl kh).2
  have ih:=tu GO δ h f σ l hh subs[i] True (by omega) (by omega) hap ti nd2 (fun x hx=>hui x (hmi x hx)) kl kh (fun _=>hi6) (by
   have e1:=hd
   rw[hge,a4,C9]at e1
   simp only[List.length_append]at e1
   omega)
  generalize subs[i]=t at*
  generalize bM room disk g key f σ t.id=r at*
  obtain⟨r,σ1⟩:=r
  rcases ih with⟨p,Hy,e1,s1,n1,l1,q⟩ | ⟨e1,s1,l1⟩
  ·simp only at e1 s1 l1 q
   subst e1
   simp only
   have hoth:∀x,(x∈aI (subs.take i)\/x∈aI (subs.drop (i+1)))->x∈aI subs/\x ∉ t.ids:=fun x hx=>by
    rw[KL]
    rcases hx with hx | hx
    ·exact⟨List.mem_append_left _ hx,fun h2=>nd5 x hx x (List.mem_append_left _ h2) rfl⟩
    ·exact⟨List.mem_append_right _ (List.mem_append_right _ hx),fun h2=>nd4 x h2 x hx rfl⟩
   have hfr:=s1.frame hap (C:=fun x=>x∈aI subs) hui
   have hkeep:∀x,(x∈aI (subs.take i)\/x∈aI (subs.drop (i+1)))->σ1.view disk x=σ.view disk x:=fun x hx=>s1.keep x (hoth x hx).2 (hui x (hoth x hx).1)
   have aeK:∀x,(x∈aI (subs.take i)\/x∈aI (subs.drop (i+1)))->x ∉ Hy:=fun x hx=>s1.apart (hui x (hoth x hx).1) (hoth x hx).2
   have hA:∀x,(x∈t.ids\/x∈aI subs) ↔ x∈aI subs:=fun x=>⟨fun h=>h.elim (hmi x) (fun h=>h), .inr⟩
   have hB:∀x,(x∈Hy\/(x∈aI subs/\x ∉ t.ids)) ↔ (x∈aI (subs.take i)\/x∈Hy\/x∈aI (subs.drop (i+1))):=fun x=>by
    rw[KL,List.mem_append,List.mem_append]
    constructor
    ·rintro(h1 | ⟨h1 | h1 | h1,h2⟩)
     ·exact .inr (.inl h1)
     ·exact .inl h1
     ·exact absurd h1 h2
     ·exact .inr (.inr h1)
    ·rintro(h1 | h1 | h1)
     ·exact .inr ⟨.inl h1,(hoth x (.inl h1)).2⟩
     ·exact .inl h1
     ·exact .inr ⟨.inr (.inr h1),(hoth x (.inr h1)).2⟩
   have hin:∀x,(x=s.id\/x∈aI subs) ↔ x∈s.ids:=fun x=>by rw[a3,List.mem_cons]
   have hkz:aF keys<=236:=by have:4+aF keys<=240:=hsz;omega
   have hb':big->6 ^ (h+1)<=s.tok+δ:=fun hbb=>by have:=hb hbb;omega
   have aeL:¬ (ah (subs.map (·.id)) keys).leaf=true:=by simp[ah]
   have ZM:(ah (subs.map (·.id)) keys).kids.length=subs.length:=List.length_map _
   have ah2:aF (keys.take i)+aF (keys.drop i)=aF keys:=by rw[<-bK,List.take_append_drop]
   rcases q with⟨rfl,rfl,q3⟩ | ⟨sp,q1,rfl,q3,q4,q5,q6,q7,q8⟩
   ·
    have hsw:swap (ah (subs.map (·.id)) keys) i (i+1) [] []=ah ((subs.take i++subs.drop (i+1)).map (·.id)) (keys.take (if 0<i then i-1 else i)++keys.drop (if i=0 then min 1 keys.length else i)):=by
     unfold swap
     rw[if_neg (by rw[ZM];simp[ah];omega)]
     show ah ((subs.map (·.id)).take i++ []++(subs.map (·.id)).drop (i+1)) (keys.take (if([]:List Int).length=0/\0<i then i-1 else i)++ []++keys.drop (if([]:List Int).length=0/\i=0 then min (i+1) keys.length else i+1-1))=_
     rw[List.append_nil,List.append_nil,List.map_append,List.map_take,List.map_drop]
     congr 2
     ·by_cases hi1:0<i
      ·rw[if_pos ⟨rfl,hi1⟩,if_pos hi1]
      ·rw[if_neg (fun h=>hi1 h.2),if_neg hi1]
     ·by_cases hi1:i=0
      ·subst hi1;rw[if_pos ⟨rfl,rfl⟩,if_pos rfl]
      ·rw[if_neg (fun h=>hi1 h.2),if_neg hi1];rfl
    rw[hsw]
    rw[q3,List.nil_append, <-gI]at hge
    have hst1:Step room disk used σ (fun x=>x∈aI subs) σ1 (fun x=>x∈aI (subs.take i++subs.drop (i+1))):=hfr.congr hA (fun x=>by
     rw[hB,dI,List.mem_append];simp)
    have hnd1:(aI (subs.take i++subs.drop (i+1))).Nodup:=by
     rw[dI,List.nodup_append]
     exact⟨nd1,nd3,fun x hx y hy=>nd5 x hx y (List.mem_append_right _ hy)⟩
    by_cases h1:subs.length=1
    ·have e0:i=0:=by omega
     subst e0
     have en:subs.take 0++subs.drop (0+1)= []:=by rw[List.drop_of_length_le (by omega)];rfl
     rw[en]at hge hst1
     rw[en]
     have hk0:keys= []:=List.eq_nil_of_length_eq_zero (by omega)
     subst hk0
     have e2:dU room disk ([], []) σ1 (ah (([]:List Sub).map (·.id)) (([]:List Str).take (if 0<0 then 0-1 else 0)++([]:List Str).drop (if 0=0 then min 1 ([]:List Str).length else 0))) 0 (24-f)=(.ok (ah [] []),σ1):=by
      unfold dU
      rw[if_neg (by simp)]
      simp
     rw[e2]
     simp only
     obtain⟨d1,d2⟩:=drop_step (disk:=disk) hst1.ap s.id
     have agU:s.id ∉ aI ([]:List Sub):=by simp[aI]
     have hdd:Step room disk used σ1 (fun x=>x=s.id\/x∈aI ([]:List Sub)) (dK σ1 s.id) (fun x=>x∈([]:List Int)):=d1.congr (fun x=>by simp[aI]) (fun x=>by simp)
     refine .inl ⟨([], []), [], ?_,(hst1.aaQ hdd agU).congr hin (fun _=>Iff.rfl),List.nodup_nil, ?_, .inl ⟨rfl,rfl, ?_⟩⟩
     ·unfold aC fA ah;simp
     ·show(aC room (fA (ah [] [])) σ1 s.id (ah [] [])).2.mine.length<=_
      have:(aC room (fA (ah [] [])) σ1 s.id (ah [] [])).2=dK σ1 s.id:=by unfold aC fA ah;simp
      rw[this];omega
     ·rw[hge];rfl
    ·have hcd:=FD G a7 hi' (by omega)
     have hcd1:Chain (Tr (σ1.view disk) h) lo hi (subs.take i++subs.drop (i+1)) (keys.take (if 0<i then i-1 else i)++keys.drop (if i=0 then 1 else i)):=jq (fun x hx=>hkeep x (by rw[dI,List.mem_append]at hx;exact hx)) hcd
     have agV:(if i=0 then min 1 keys.length else i)=(if i=0 then 1 else i):=by
      by_cases hi1:i=0
      ·rw[if_pos hi1,if_pos hi1];omega
      ·rw[if_neg hi1,if_neg hi1]
     rw[agV]
     have hkk:∀k∈keys.take (if 0<i then i-1 else i)++keys.drop (if i=0 then 1 else i),k∈keys:=fun k hk=>by
      rcases List.mem_append.1 hk with hk | hk
      ·exact List.mem_of_mem_take hk
      ·exact List.mem_of_mem_drop hk
     have agW:aF (keys.take (if 0<i then i-1 else i)++keys.drop (if i=0 then 1 else i))<=257:=by
      have s1:∀m,aF (keys.take m)<=aF keys:=fun m=>by
       have:aF (keys.take m)+aF (keys.drop m)=aF keys:=by rw[<-bK,List.take_append_drop]
       omega
      have s2:aF (keys.take (i-1))<=aF (keys.take i):=by
       have:(keys.take i).take (i-1)=keys.take (i-1):=by rw[List.take_take,Nat.min_eq_left (by omega)]
       rw[<-this]
       have e:aF ((keys.take i).take (i-1))+aF ((keys.take i).drop (i-1))=aF (keys.take i):=by rw[<-bK,List.take_append_drop]
       omega
      have s3:aF (keys.drop 1)<=aF keys:=by
       have:aF (keys.take 1)+aF (keys.drop 1)=aF keys:=by rw[<-bK,List.take_append_drop]
       omega
      rw[bK]
      by_cases hi1:i=0
      ·subst hi1
       rw[if_neg (by omega),if_pos rfl]
       have:aF (keys.take 0)=0:=by simp[aF]
       omega
      ·rw[if_pos (by omega),if_neg hi1];omega
     have hfin:=FP (N:=3*(h+1)) (id:=s.id) (tok:=s.tok+δ) (big:=big) (i:=i) (d:=24-f) (p:=([], [])) hst1 l1 hus TN hcd1 (fun k hk=>hkm k (hkk k hk)) hnd1 agW (by rw[fQ];omega) (fun u hu=>by
      rcases List.mem_append.1 hu with hu | hu
      ·exact a6 u (List.mem_of_mem_take hu)
      ·exact a6 u (List.mem_of_mem_drop hu)) hb' (fun h=>by simp at h) (by omega)
     exact hfin.mono hin (by omega) (fun a σ' ids hq=>by rw[hge];exact hq)
   ·
    have hpl:=eG q5
    have hp2:p.2.length=p.1.length-1:=by rw[q1,List.length_map];omega
    have hp0:0<p.1.length:=by rw[q1,List.length_map];omega
    have hsw:swap (ah (subs.map (·.id)) keys) i (i+1) p.1 p.2=ah ((subs.take i++sp++subs.drop (i+1)).map (·.id)) (keys.take i++p.2++keys.drop i):=by
     unfold swap
     rw[if_neg (by rw[ZM];simp[ah];omega)]
     show ah ((subs.map (·.id)).take i++p.1++(subs.map (·.id)).drop (i+1)) (keys.take (if p.1.length=0/\0<i then i-1 else i)++p.2++keys.drop (if p.1.length=0/\i=0 then min (i+1) keys.length else i+1-1))=_
     rw[if_neg (by omega),if_neg (by omega),q1,List.map_append,List.map_append,List.map_take,List.map_drop]
     rfl
    rw[hsw]
    have agX:=hrep (Tr (σ1.view disk) h) sp p.2 (fun u hu l' h' hT=>kR (fun x hx=>hkeep x (by
     rcases hu with hu | hu
     ·exact .inl (iR hu hx)
     ·exact .inr (iR hu hx))) hT) q5
    have hes1:es_ (subs.take i++sp++subs.drop (i+1))=g s.es:=by rw[gI,gI,hge,q3,List.append_assoc]
    have hst1:Step room disk used σ (fun x=>x∈aI subs) σ1 (fun x=>x∈aI (subs.take i++sp++subs.drop (i+1))):=hfr.congr hA (fun x=>by
     rw[hB,dI,dI,List.mem_append,List.mem_append,or_assoc])
    have hnd1:(aI (subs.take i++sp++subs.drop (i+1))).Nodup:=by
     rw[dI,dI,List.nodup_append,List.nodup_append]
     refine⟨⟨nd1,n1,fun x hx y hy e=>aeK x (.inl hx) (e ▸ hy)⟩,nd3,fun x hx y hy=> ?_⟩
     rcases List.mem_append.1 hx with hx | hx
     ·exact nd5 x hx y (List.mem_append_right _ hy)
     ·exact fun e=>aeK y (.inr hy) (e ▸ hx)
    have hpz:aF p.2<=21:=by
     have:=xR q6
     have:p.2.length<=1:=by rw[hp2,q1,List.length_map];omega
     omega
    have hfin:=FP (N:=3*(h+1)) (id:=s.id) (tok:=s.tok+δ) (big:=big) (i:=i) (d:=24-f) (p:=p) hst1 l1 hus TN agX (fun k hk=>by
     rcases List.mem_append.1 hk with hk | hk
     ·rcases List.mem_append.1 hk with hk | hk
      ·exact hkm k (List.mem_of_mem_take hk)
      ·exact q6 k hk
     ·exact hkm k (List.mem_of_mem_drop hk)) hnd1 (by rw[bK,bK];omega) (by rw[fQ,fQ];omega) (fun u hu=>by
     rcases List.mem_append.1 hu with hu | hu
     ·rcases List.mem_append.1 hu with hu | hu
      ·exact a6 u (List.mem_of_mem_take hu)
      ·exact q8 (.inl trivial) u hu
     ·exact a6 u (List.mem_of_mem_drop hu)) hb' (fun _=>(by
     rw[List.length_append,List.length_append,List.length_take]
     have:0<sp.length:=by rw[q1,List.length_map]at hp0;exact hp0
     omega)) (by omega)
    exact hfin.mono hin (by omega) (fun a σ' ids hq=>by rw[<-hes1];exact hq)
  ·simp only at e1 s1 l1
   subst e1
   exact .inr ⟨rfl,s1,by omega⟩
end
def gX(disk:aA)(used:List Run)(σ:Pst)(root:Int)(es:List En.Ent)(tok:Nat)(ids:List Int):Prop:=
 (root=0/\es= []/\ids= [])\/∃h s,s.id=root/\s.ids=ids/\s.es=es/\s.tok<=tok/\Tr (σ.view disk) h none none s/\ids.Nodup/\(∀x∈ids,Use used σ x)/\(h=0\/2*6 ^ (h-1)<=s.tok)
theorem OA{h t:Nat}(h1:h=0\/2*6 ^ (h-1)<=t)(h2:t<=1000000):h<=8:=by
 by_cases hh:h<=8
 ·exact hh
 ·rcases h1 with h1 | h1
  ·omega
  ·have:6 ^ 8<=6 ^ (h-1):=Nat.pow_le_pow_right (by decide) (by omega)
   have e:(6:Nat) ^ 8=1679616:=by decide
   omega
section
variable {room:Int}{disk:aA}{used:List Run}{σ:Pst}
theorem yB:∀ (h f:Nat) (σ:Pst) (s:Sub),h<f->ApS room used σ->Tr (σ.view disk) h none none s->s.ids.Nodup->(∀x∈s.ids,Use used σ x)->
  ∃id' σ' dQ,dG disk f σ s.id=(.ok id',σ')/\Step room disk used σ (fun x=>x∈s.ids) σ' (fun x=>x∈dQ)/\dQ.Nodup/\σ'.mine.length<=σ.mine.length/\gX disk used σ' id' s.es s.tok dQ
 |0,f+1,σ,s,_,hap,ht,hnd,gy=>by
  refine⟨s.id,σ,s.ids, ?_,pI hap gy,hnd,Nat.le_refl _, .inr ⟨0,s,rfl,rfl,rfl,Nat.le_refl _,ht,hnd,gy, .inl rfl⟩⟩
  unfold dG
  rw[ht.1]
  simp only
  rw[if_pos (.inl rfl)]
 |h+1,f+1,σ,s,hf,hap,ht,hnd,gy=>by
  have ht0:=ht
  obtain⟨subs,keys,a1,a2,a3,a4,a5,a6,a7⟩:=ht
  unfold dG
  rw[a1]
  simp only
  have hkl:(ah (subs.map (·.id)) keys).kids.length=subs.length:=List.length_map _
  by_cases hc:1<subs.length
  ·rw[if_pos (.inr (by rw[hkl];exact hc))]
   refine⟨s.id,σ,s.ids,rfl,pI hap gy,hnd,Nat.le_refl _, .inr ⟨h+1,s,rfl,rfl,rfl,Nat.le_refl _,ht0,hnd,gy, .inr ?_⟩⟩
   have hg:=Ir (subs:=subs) (m:=6 ^ h) a6
   have:2*6 ^ h<=subs.length*6 ^ h:=Nat.mul_le_mul_right _ (by omega)
   rw[Nat.add_one_sub_one]
   omega
  ·have hne:=JR a7
   obtain⟨t,rfl⟩:∃t,subs= [t]:=by
    cases subs with
    |nil=>exact absurd rfl hne
    |cons t r=>
     cases r with
     |nil=>exact⟨t,rfl⟩
     |cons u r=>simp at hc
   have hk0:keys= []:=List.eq_nil_of_length_eq_zero (by have:=eG a7;simp only[List.length_cons,List.length_nil]at this;omega)
   subst hk0
   rw[if_neg (by simp[ah])]
   show ∃id' σ' dQ,dG disk f (dK σ s.id) t.id=(.ok id',σ')/\_
   have e1:aI [t]=t.ids:=by simp[aI]
   have e2:es_ [t]=t.es:=by simp[es_]
   have e3:toks [t]=t.tok:=by simp[toks]
   rw[e1]at a3
   rw[e2]at a4
   rw[e3]at a5
   rw[a3,List.nodup_cons]at hnd
   obtain⟨d1,d2⟩:=drop_step (disk:=disk) hap s.id
   have hut:∀x∈t.ids,Use used σ x:=fun x hx=>gy x (by rw[a3];exact List.mem_cons_of_mem _ hx)
   have hne2:∀x∈t.ids,x≠s.id:=fun x hx e=>hnd.1 (e ▸ hx)
   have htr:Tr ((dK σ s.id).view disk) h none none t:=kR (fun x hx=>d1.keep x (hne2 x hx) (hut x hx)) a7
   obtain⟨id',σ',dQ,g1,g2,g3,g4,g5⟩:=yB h f (dK σ s.id) t (by omega) d1.ap htr hnd.2 (fun x hx=>d1.use (hut x hx) (hne2 x hx))
   have hfr:=(d1.frame hap (C:=fun x=>x∈t.ids) hut).congr (A':=fun x=>x=s.id\/x∈t.ids) (A1':=fun x=>x∈t.ids) (fun _=>Iff.rfl) (fun x=>⟨fun h=>h.elim (fun h=>h.elim) (fun h=>h.1),fun h=> .inr ⟨h,hne2 x h⟩⟩)
   refine⟨id',σ',dQ,g1,(hfr.then_ g2).congr (fun x=>by rw[a3,List.mem_cons]) (fun _=>Iff.rfl),g3,by omega, ?_⟩
   rw[a4]
   rcases g5 with h1 | ⟨h2,s2,q1,q2,q3,q4,q5⟩
   ·exact .inl h1
   ·exact .inr ⟨h2,s2,q1,q2,q3,by omega,q5⟩
theorem ZN(hap:ApS room used σ){h:Nat}{p:Part}{ids:List Int}{es:List En.Ent}{tok:Nat}{big:Prop}(hp:PartsAt (σ.view disk) h none none p ids es tok big)(hh:h<=20)(hnd:ids.Nodup)(gy:∀x∈ids,Use used σ x):
  Res room disk used σ (fun x=>x∈ids) 1 (fE room disk (p.1.length+1) σ p) (fun root σ' dQ=>gX disk used σ' root es tok dQ):=by
 rcases hp with⟨rfl,rfl,rfl⟩ | ⟨subs,q1,rfl,rfl,q4,q5,q6,q7,q8⟩
 ·unfold fE
  rw[if_neg (by simp)]
  exact .inl ⟨0, [],rfl,pI hap gy,hnd,Nat.le_succ _, .inl ⟨rfl,rfl,rfl⟩⟩
 ·have hpl:p.1.length=subs.length:=by rw[q1,List.length_map]
  have hne:=JR q5
  have hcl:=eG q5
  by_cases h1:subs.length=1
  ·obtain⟨t,rfl⟩:∃t,subs= [t]:=List.length_eq_one_iff.1 h1
   have e1:aI [t]=t.ids:=by simp[aI]
   have e2:es_ [t]=t.es:=by simp[es_]
   have e3:toks [t]=t.tok:=by simp[toks]
   rw[e1]at hnd gy ⊢
   rw[e2]
   rw[e3]at q4
   have hk0:p.2= []:=List.eq_nil_of_length_eq_zero (by omega)
   rw[hk0]at q5
   unfold fE
   rw[if_neg (by omega),q1]
   simp only[List.map_cons,List.map_nil]
   obtain⟨id',σ',dQ,g1,g2,g3,g4,g5⟩:=yB h 24 σ t (by omega) hap q5 hnd gy
   rw[g1]
   refine .inl ⟨id',dQ,rfl,g2,g3,by show σ'.mine.length<=_;omega, ?_⟩
   rcases g5 with h1 | ⟨h2,s2,w1,w2,w3,w4,w5⟩
   ·exact .inl h1
   ·exact .inr ⟨h2,s2,w1,w2,w3,by omega,w5⟩
  ·have h2:subs.length=2:=by
    have:subs.length≠0:=fun e=>hne (List.eq_nil_of_length_eq_zero e)
    omega
   have h6:=q8 (.inr h1)
   have hks:=(bV (iF _ _) q5).2.2.2.1
   have hkz:=xR q6
   have hk1:p.2.length=1:=by omega
   have hkr:=CZ hap q5 gy
   have hfit:fits (ah p.1 p.2)=true:=bf.2 ⟨je (by omega) (by rw[q1];exact hkr) q6 hks,by show 4+aF p.2<=240;rw[hk1]at hkz;omega⟩
   unfold fE
   rw[if_pos (by omega)]
   have ho:=store_one (disk:=disk) hap p.1.length 0 (n:=ah p.1 p.2) (by show 0+p.1.length≠0;omega) hfit
   generalize aC room (p.1.length+1) σ 0 (ah p.1 p.2)=r at*
   obtain⟨r,σ1⟩:=r
   rcases ho with⟨q,Hy,e1,s1,n1,l1,pg,rfl,rfl,v1⟩ | ⟨e1,s1,l1⟩
   ·simp only at e1 s1 l1 v1
    subst e1
    simp only
    have hz:∀x∈aI subs,x≠0:=fun x hx e=>by have:=iC hap (gy x hx);omega
    have hkeep:∀x∈aI subs,σ1.view disk x=σ.view disk x:=fun x hx=>s1.keep x (hz x hx) (gy x hx)
    have hpg:pg ∉ aI subs:=fun hx=>s1.apart (gy pg hx) (hz pg hx) (by simp)
    have htr:Tr (σ1.view disk) (h+1) none none ⟨pg,pg::aI subs,es_ subs,tok⟩:=⟨subs,p.2,by rw[v1,q1],by rw[<-q1];exact hfit,rfl,rfl,q4,h6,jq hkeep q5⟩
    have hnd1:(pg::aI subs).Nodup:=List.nodup_cons.2 ⟨hpg,hnd⟩
    have hst:Step room disk used σ (fun x=>x∈aI subs) σ1 (fun x=>x∈pg::aI subs):=((s1.frame hap (C:=fun x=>x∈aI subs) gy).shrink (A2:=fun x=>x∈aI subs) (fun x hx hx2 hu=>by
     rcases hx with hx | hx
     ·exact Hw hap (by omega) hu
     ·exact hx2 hx) (fun x hx=> .inr hx)).congr (fun _=>Iff.rfl) (fun x=>by
     simp only[List.mem_cons,List.not_mem_nil,or_false]
     constructor
     ·rintro(h1 | ⟨h1,_⟩)
      ·exact .inl h1
      ·exact .inr h1
     ·rintro(h1 | h1)
      ·exact .inl h1
      ·exact .inr ⟨h1,hz x h1⟩)
    obtain⟨f,hf⟩:∃f,p.1.length=f+1:=⟨p.1.length-1,by omega⟩
    rw[hf]
    unfold fE
    rw[if_neg (by simp)]
    simp only
    obtain⟨id',σ',dQ,g1,g2,g3,g4,g5⟩:=yB (h+1) 24 σ1 ⟨pg,pg::aI subs,es_ subs,tok⟩ (by omega) s1.ap htr hnd1 (fun x hx=>hst.got hx)
    simp only at g1
    rw[g1]
    exact .inl ⟨id',dQ,rfl,hst.then_ g2,g3,by show σ'.mine.length<=_;omega,g5⟩
   ·simp only at e1 s1 l1
    subst e1
    exact .inr ⟨rfl,s1,by omega⟩
end
def xk(k v:Str)(l:List En.Ent):List En.Ent:=if En.right l&&En.may k v then En.put l k v else l
def xq(k:Str)(l:List En.Ent):List En.Ent:=if En.right l then En.del l k else l
theorem Am(a b:List En.Ent)(k:Str):En.del (a++b) k=En.del a k++En.del b k:=by unfold En.del;rw[List.filter_append]
theorem rQ{a:List En.Ent}{k:Str}(h:∀x∈a,x.1≠k):En.del a k=a:=by
 unfold En.del
 rw[List.filter_eq_self]
 intro x hx
 rw[Bool.not_eq_true',oL];exact h x hx
theorem P8{x:En.Ent} :∀ {a:List En.Ent} (l:List En.Ent),(∀y∈a,lt y.1 x.1=true)->En.ins x (a++l)=a++En.ins x l
 | [],_,_=>rfl
 |y::a,l,h=>by
  rw[List.cons_append,En.ins,if_neg (by rw[uV (h y List.mem_cons_self)];simp),P8 l (fun z hz=>h z (List.mem_cons_of_mem _ hz))]
  rfl
theorem KN{x:En.Ent}{b:List En.Ent}(h:∀y∈b,lt x.1 y.1=true):∀ (l:List En.Ent),En.ins x (l++b)=En.ins x l++b
 | []=>by
  cases b with
  |nil=>rfl
  |cons y b=>rw[List.nil_append];show En.ins x (y::b)=x::y::b;rw[En.ins,if_pos (h y List.mem_cons_self)]
 |y::l=>by
  rw[List.cons_append,En.ins,En.ins]
  by_cases hc:lt x.1 y.1=true
  ·rw[if_pos hc,if_pos hc];rfl
  ·rw[if_neg hc,if_neg hc,KN h l];rfl
theorem FQ(x:En.Ent):∀l:List En.Ent,aK (En.ins x l)=esz x+aK l
 | []=>by rw[En.ins,dD]
 |y::l=>by
  rw[En.ins]
  split
  ·rw[dD]
  ·rw[dD,FQ x l,dD];omega
theorem FT(l:List En.Ent)(k:Str):aK (En.del l k)<=aK l:=by
 induction l with
 |nil=>exact Nat.le_refl _
 |cons x l ih=>
  unfold En.del at*
  rw[List.filter_cons]
  split
  ·rw[dD,dD];omega
  ·rw[dD];omega
theorem P9(a l b:List En.Ent):l.Sublist (a++(l++b)):=(List.sublist_append_left l b).trans (List.sublist_append_right a _)
theorem Qa{k v:Str}(hm:En.may k v=true):GOp (xk k v) k where
 right:=fun l h=>by unfold xk;rw[h,hm];exact Rw h hm
 loc:=fun a l b h ha hb=>by
  unfold xk
  rw[h,hm,sZ h (P9 a l b)]
  show En.put _ k v=a++(En.put l k v++b)
  unfold En.put
  rw[Am,Am,rQ (fun x hx=>Bf (ha x hx)),rQ (fun x hx=>(Bf (hb x hx)).symm),P8 _ ha,KN hb]
 inn:=fun l x hx=>by
  unfold xk at hx
  split at hx
  ·rcases Aa.1 hx with rfl | h
   ·exact .inr rfl
   ·exact .inl h.1
  ·exact .inl hx
 size:=fun l=>by
  unfold xk
  split
  ·unfold En.put
   rw[FQ]
   have:=FT l k
   have:=Aj (x:=(k,v)) hm
   omega
  ·omega
theorem Qb(k:Str):GOp (xq k) k where
 right:=fun l h=>by unfold xq;rw[h];exact Rx h
 loc:=fun a l b h ha hb=>by
  unfold xq
  rw[h,sZ h (P9 a l b)]
  show En.del _ k=a++(En.del l k++b)
  rw[Am,Am,rQ (fun x hx=>Bf (ha x hx)),rQ (fun x hx=>(Bf (hb x hx)).symm)]
 inn:=fun l x hx=>by
  unfold xq at hx
  split at hx
  ·exact .inl (wG.1 hx).1
  ·exact .inl hx
 size:=fun l=>by
  unfold xq
  split
  ·have:=FT l k;omega
  ·omega
theorem ZO{a l b:List En.Ent}{k:Str}(ha:∀x∈a,lt x.1 k=true)(hb:∀x∈b,lt k x.1=true):En.get (a++(l++b)) k=En.get l k:=by
 have h1:∀ (c:List En.Ent),(∀x∈c,x.1≠k)->c.find? (fun x=>eqs x.1 k)=none:=fun c hc=>by
  rw[List.find?_eq_none]
  intro x hx
  rw[Np (hc x hx)];simp
 unfold En.get
 rw[List.find?_append,h1 a (fun x hx=>Bf (ha x hx)),List.find?_append,h1 b (fun x hx=>(Bf (hb x hx)).symm)]
 cases l.find? (fun x=>eqs x.1 k)<;>rfl
section
variable {disk:aA}{σ:Pst}
theorem Qc{key:Str} :∀ (h f:Nat) (lo hi:Option Str) (s:Sub),h<f->Tr (σ.view disk) h lo hi s->s.id≠0->qo lo key->oZ hi key->lN disk σ key f s.id= .ok (En.get s.es key)
 |0,f+1,lo,hi,s,_,ht,h0,_,_=>by
  rw[lN,if_neg h0,ht.1]
  simp only
  rw[if_pos (show(aG s.es).leaf=true from rfl)]
  rfl
 |h+1,f+1,lo,hi,s,hf,ht,h0,hk1,hk2=>by
  have G:=iF (σ.view disk) h
  obtain⟨subs,keys,a1,a2,a3,a4,a5,a6,a7⟩:=ht
  obtain⟨hrt,hsz⟩:=bf.1 a2
  obtain⟨_,r2,r3,r4⟩:=aY.1 hrt
  have hlen:=eG a7
  have hci:=oN keys key
  obtain⟨i,hi0⟩:∃i,i=child keys key:=⟨_,rfl⟩
  have hi':i<subs.length:=by omega
  rw[lN,if_neg h0,a1]
  simp only
  rw[if_neg (show ¬ (ah (subs.map (·.id)) keys).leaf=true by simp[ah])]
  rw[show(ah (subs.map (·.id)) keys).keys=keys from rfl, <-hi0,show(ah (subs.map (·.id)) keys).kids=subs.map (·.id)from rfl,Dc hi']
  obtain⟨l,hh,ti,c1,c2,hrep,hloc,hcb⟩:=wV G a7 hi'
  obtain⟨kl,kh⟩:=hcb key hi0.symm hk1 hk2
  have hid:2<=(subs[i]).id:=(r3 _ (List.mem_map.2 ⟨subs[i],List.getElem_mem hi',rfl⟩)).1
  rw[Qc h f l hh subs[i] (by omega) ti (by omega) kl kh]
  have hsp:subs=subs.take i++(subs[i]::subs.drop (i+1)):=by rw[<-List.drop_eq_getElem_cons,List.take_append_drop]
  have C9:es_ subs=es_ (subs.take i)++((subs[i]).es++es_ (subs.drop (i+1))):=by
   conv=>lhs;rw[hsp]
   rw[gI,kE]
  rw[a4,C9,ZO (hloc key kl kh).1 (hloc key kl kh).2]
end
def from_(l:List En.Ent)(frm:Str):List En.Ent:=l.drop (place l frm)
theorem pJ(x:En.Ent)(l:List En.Ent)(frm:Str):from_ (x::l) frm=if lt x.1 frm then from_ l frm else x::l:=by
 unfold from_ place
 rw[List.takeWhile_cons]
 by_cases h:lt x.1 frm=true
 ·rw[if_pos h,if_pos h];rfl
 ·rw[if_neg h,if_neg h];rfl
theorem Xu{a:List En.Ent}{frm:Str}(b:List En.Ent)(h:∀x∈a,lt x.1 frm=true):from_ (a++b) frm=from_ b frm:=by
 induction a with
 |nil=>rfl
 |cons x a ih=>rw[List.cons_append,pJ,if_pos (h x List.mem_cons_self),ih fun y hy=>h y (List.mem_cons_of_mem _ hy)]
theorem KO{b:List En.Ent}{frm:Str}(h:∀x∈b,lt x.1 frm=false):from_ b frm=b:=by
 cases b with
 |nil=>rfl
 |cons x b=>rw[pJ,if_neg (by rw[h x List.mem_cons_self];simp)]
theorem TP{a b:List En.Ent}{frm:Str}(h:∀x∈b,lt x.1 frm=false):from_ (a++b) frm=from_ a frm++b:=by
 induction a with
 |nil=>rw[List.nil_append,KO h];rfl
 |cons x a ih=>
  rw[List.cons_append,pJ,pJ]
  split
  ·exact ih
  ·rfl
theorem Df{P:Ht}{hi:Option Str}{frm:Str}(G:Good P):∀ {subs:List Sub} {keys:List Str} {lo:Option Str},Chain P lo hi subs keys->∃ (h:child keys frm<subs.length),from_ (es_ subs) frm=from_ (subs[child keys frm]).es frm++es_ (subs.drop (child keys frm+1))/\∀t∈subs.drop (child keys frm+1),∀x∈t.es,lt x.1 frm=false
 | [s], [],lo,h=>⟨by simp[child],by simp[child,es_],by simp[child]⟩
 |s::rest,k::ks,lo,h=>by
  obtain⟨p,q⟩:=aJ.1 h
  obtain⟨_,r2,_,_,_⟩:=bV G q
  by_cases hc:lt frm k=true
  ·have e:child (k::ks) frm=0:=by unfold child;rw[if_pos hc]
   rw[e]
   have hx:∀x∈es_ rest,lt x.1 frm=false:=fun x hx=>uV (kL hc (jB.1 (r2 x hx).1))
   refine⟨by simp, ?_,fun t ht x hxt=>hx x ?_⟩
   ·rw[kE,TP hx]
    simp
   ·unfold es_;rw[List.mem_flatMap];exact⟨t,by simpa using ht,hxt⟩
  ·have e:child (k::ks) frm=child ks frm+1:=by rw[child];rw[if_neg hc]
   rw[e]
   obtain⟨i1,i2,i3⟩:=Df G q (frm:=frm)
   refine⟨by simpa using i1, ?_, ?_⟩
   ·rw[kE,Xu _ (fun x hx=> ?_),i2]
    ·simp
    ·exact kL (iQ.1 ((G.inn p x hx).2)) (by simpa using hc)
   ·simpa using i3
def eH{S:Type}(y:S->En.Ent->S × Bool):S->List En.Ent->S × Bool
 |s, []=>(s,true)
 |s,x::l=>if(y s x).2 then eH y (y s x).1 l else((y s x).1,false)
theorem FV{S:Type}{y:S->En.Ent->S × Bool} :∀ (a b:List En.Ent) (s:S),eH y s (a++b)=if(eH y s a).2 then eH y (eH y s a).1 b else eH y s a
 | [],b,s=>by simp[eH]
 |x::a,b,s=>by
  rw[List.cons_append,eH,eH]
  by_cases h:(y s x).2=true
  ·rw[if_pos h,if_pos h,FV a b]
  ·rw[if_neg h,if_neg h];simp
theorem KP{S:Type}{y:S->En.Ent->S × Bool}{vis:Int->S->S × Except Int Bool}{part:Sub->List En.Ent} :∀ (l:List Sub) (s:S),(∀t∈l,∀s,vis t.id s=((eH y s (part t)).1, .ok (eH y s (part t)).2))->lM vis (l.map (·.id)) s=((eH y s (l.flatMap part)).1, .ok (eH y s (l.flatMap part)).2)
 | [],s,_=>rfl
 |t::l,s,h=>by
  rw[List.map_cons,lM,h t List.mem_cons_self,List.flatMap_cons,FV]
  cases hb:(eH y s (part t)).2 with
  |true=>simp only[if_true];exact KP l _ (fun u hu=>h u (List.mem_cons_of_mem _ hu))
  |false=>simp[hb]
theorem KQ{S:Type}{disk:aA}{σ:Pst}{frm:Str}(y:S->En.Ent->S × Bool):∀ (h f:Nat) (lo hi:Option Str) (s:Sub) (st:S),h<f->Tr (σ.view disk) h lo hi s->
  jI disk σ frm (eH y) f s.id st=((eH y st (from_ s.es frm)).1, .ok (eH y st (from_ s.es frm)).2)
 |0,f+1,lo,hi,s,st,_,ht=>by
  rw[jI,ht.1]
  simp only
  rw[if_pos (show(aG s.es).leaf=true from rfl)]
  rfl
 |h+1,f+1,lo,hi,s,st,hf,ht=>by
  have G:=iF (σ.view disk) h
  obtain⟨subs,keys,a1,a2,a3,a4,a5,a6,a7⟩:=ht
  obtain⟨i1,i2,i3⟩:=Df G a7 (frm:=frm)
  rw[jI,a1]
  simp only
  rw[if_neg (show ¬ (ah (subs.map (·.id)) keys).leaf=true by simp[ah])]
  show lM _ ((subs.map (·.id)).drop (child keys frm)) st=_
  have e:(subs.map (·.id)).drop (child keys frm)=(subs.drop (child keys frm)).map (·.id):=by rw[List.map_drop]
  rw[e,KP (y:=y) (part:=fun t=>from_ t.es frm) _ _ (fun t ht s=> ?_)]
  ·have e2:(subs.drop (child keys frm)).flatMap (fun t=>from_ t.es frm)=from_ s.es frm:=by
    rw[a4,i2,List.drop_eq_getElem_cons i1,List.flatMap_cons]
    congr 1
    unfold es_
    generalize subs.drop (child keys frm+1)=l at*
    clear i2 e
    induction l with
    |nil=>rfl
    |cons t l ih=>rw[List.flatMap_cons,List.flatMap_cons,KO (i3 t List.mem_cons_self),ih fun u hu=>i3 u (List.mem_cons_of_mem _ hu)]
   rw[e2]
  ·obtain⟨l,hh,hp⟩:=fD a7 t (List.mem_of_mem_drop ht)
   exact KQ y h f l hh t s (by omega) hp
end Tp
namespace Go.Proofs.YteppebbmnojapaaGreatDoor
open Go.RowKit Go.Shelf
theorem FW:∀args w,(callFunc 203 args).run Tryz.prog w= .ok (.enter 203 args) w:=fun args w=>by kernel_rfl
theorem TQ{disk:Tp.aA}{σ:Tp.Pst}{key:ByteArray}{f:Nat}{ov:Option En.Str}(h:Tp.lN disk σ key f 0= .ok ov):ov=none:=by
 cases f<;>simp[Tp.lN]at h<;>exact h.symm
theorem TR{disk:Tp.aA}{σ:Tp.Pst}{key:ByteArray}{f:Nat}{id:Int}{ov:Option En.Str}(h:Tp.lN disk σ key f id= .ok ov)(h0:id≠0):∃f' n,f=f'+1/\σ.view disk id=some n/\(if n.leaf then .ok (En.get n.ents key)else Tp.lN disk σ key f' (n.kids.getD (Nd.child n.keys key) 0))=(Except.ok ov:Except Int (Option En.Str)):=by
 cases f with
 |zero=>rw[Tp.lN,if_neg h0]at h;cases h
 |succ f=>
  rw[Tp.lN,if_neg h0]at h
  cases hv:σ.view disk id with
  |none=>rw[hv]at h;cases h
  |some n=>rw[hv]at h;exact⟨f,n,rfl,rfl,h⟩
section
variable {S:Nat->Prop}{B t:Nat}{room:Int}{disk:Tp.aA}{TM:Nat->Tp.Pst->World->Prop}
def aci(ov:Option En.Str):Value:=match ov with
 |some v=> .tuple #[.string v, .bool true, .int .i64 0]
 |none=> .tuple #[.string ⟨#[]⟩, .bool false, .int .i64 0]
def aeM(S:Nat->Prop)(B t u:Nat)(TM:Nat->Tp.Pst->World->Prop)(root:Int)(r:Nat)(σ:Tp.Pst)(ov:Option En.Str)(w:World)(e:Ending)(w':World):Prop:=e= .returned (aci ov)/\On S B t u TM root 0 r σ w'/\Fr S w w'
theorem KR(M:fU S B t room disk TM)(u:Nat)(root:Int)(key:ByteArray)(r:Nat)(σ:Tp.Pst)(ov:Option En.Str)(hfind:Tp.lN disk σ key 24 root= .ok ov)(w:World)(h:On S B t u TM root 0 (r+48) σ w):
  Calls Tryz.prog 132 #[.pointer (some ⟨u,0,none⟩), .string key] w (aeM S B t u TM root r σ ov w):=by
 have t1:w.cell? ⟨u,1,none⟩=some (.int .i64 root):=h.self.cell 1
 have t2:w.cell? ⟨u,2,none⟩=some (.int .i64 0):=h.self.cell 2
 have HM:=Lib.hid M
 have HON:=Lib.hid h
 have hsz:=M.size h.tm
 have hun:u<w.heap.size:=h.self.lt
 have HFD:=Lib.hid hfind
 clear hfind h M
 go_enter Tryz.func132,Tryz.ntmps132
 go_wp2
 go_loopg [7,8] 24 (fun g s7 s8 wr=>∃ (d f:Nat) (idi:Int),s7= .int .i64 idi/\s8= .int .i64 (d:Nat)/\d+f=24/\f<=g/\Hid (Tp.lN disk σ key f idi= .ok ov)/\Hid (On S B t u TM root 0 (r+2*f) σ wr)/\Hid (Fr S w wr))
 case atStart=>exact⟨0,24,root,rfl,rfl,rfl,Nat.le_refl _,HFD,HON,Lib.hid (Fr.refl _)⟩
 case round=>
  obtain⟨d,f,idi,rfl,rfl,hdf,hfg,HFI,Et,HFR⟩:=hrel
  have hwz:=HFR.out.size
  by_cases h0:idi=0
  ·subst h0
   have hov:=TQ HFI.out
   have HOV:=Lib.hid hov
   have iV:=Lib.hid (Et.out.less HM.out (show r<=r+2*f by omega))
   clear hov
   go_wp2
   go_ret3
   exact⟨by rw[HOV.out];rfl,iV.out,HFR.out⟩
  ·obtain⟨f,n,rfl,hv,hgo⟩:=TR HFI.out h0
   have h0n:(idi != 0)=true:=by simpa using h0
   have hfit:=(HM.out.ht Et.out.tm hv).1
   have HLD:=Lib.hid (pq HM.out u root 0 (r+2*f) σ idi d n hv (by omega) wr (Et.out.less HM.out (by omega)))
   have jP:=Lib.hid hfit
   have HGO:=Lib.hid hgo
   clear hv hfit hgo
   go_wp2_with fail
   refine Calls.mono HLD.out ?_
   rintro e w1 ⟨v,rfl,hnf,pG,hf1⟩
   obtain⟨N1,c1,N2,c2,N3,c3,rfl,rn⟩:=hnf
   have hz1:=hf1.size
   have hb2:=(Below.refl w1.heap.size w1).alloc (Nat.le_refl _) (.cells #[.bool n.leaf, .slice N1 n.ents.length c1, .slice N2 n.kids.length c2, .slice N3 n.keys.length c3] 146)
   have hF2:=(HFR.out.trans hf1).trans (.of_below hb2)
   have dV:=pG.below HM.out hb2
   have hBn:=Blk.new w1 146 #[.bool n.leaf, .slice N1 n.ents.length c1, .slice N2 n.kids.length c2, .slice N3 n.keys.length c3]
   have hNF:=NF.below (lo:=wr.heap.size) (v:= .agg #[.bool n.leaf, .slice N1 n.ents.length c1, .slice N2 n.kids.length c2, .slice N3 n.keys.length c3]) ⟨N1,c1,N2,c2,N3,c3,rfl,rn⟩ hb2
   have HRN:=Lib.hid rn
   have HB2:=Lib.hid hb2
   have hzz:(w1.alloc (.cells #[.bool n.leaf, .slice N1 n.ents.length c1, .slice N2 n.kids.length c2, .slice N3 n.keys.length c3] 146)).heap.size=w1.heap.size+1:=by simp
   unfold aP
   cases hlf:n.leaf with
   |true=>
    rw[hlf]at hF2 dV hBn hNF hzz
    have hres:En.get n.ents key=ov:=by have:=HGO.out;rw[hlf]at this;simpa using this
    have hrt:En.right n.ents=true:=by
     obtain⟨hr,_⟩:=Tp.bf.1 jP.out
     obtain⟨leaf,ents,kids,keys⟩:=n
     obtain rfl:leaf=true:=hlf
     exact(Nd.eP.1 hr).1
    have hle:=(vM jP.out).1
    have HEG:=Lib.hid (VW N1 c1 n.ents key _ (LO.below HRN.out.1 (by rw[hlf]at hb2;exact hb2)).ls (by omega) hrt)
    rw[hres]at HEG
    have g0:=hBn.cell 0
    have g1:=hBn.cell 1
    have ln:=hBn.lt
    have HF2:=Lib.hid hF2
    have iV:=Lib.hid dV
    clear hb2 pG dV hf1 rn hBn hNF hF2 hres hrt hlf
    cases ov with
    |none=>
     go_wp2_with fail
     refine HEG.out.mono ?_
     rintro e w3 ⟨rfl,hb3⟩
     have aZ:=Lib.hid (show On S B t u TM root 0 r σ w3/\Fr S w w3 from⟨(iV.out.below HM.out hb3).less HM.out (by omega),HF2.out.trans (.of_below hb3)⟩)
     clear hb3
     go_wp2
     go_ret3
     exact⟨rfl,aZ.out.1,aZ.out.2⟩
    |some val=>
     go_wp2_with fail
     refine HEG.out.mono ?_
     rintro e w3 ⟨rfl,hb3⟩
     have aZ:=Lib.hid (show On S B t u TM root 0 r σ w3/\Fr S w w3 from⟨(iV.out.below HM.out hb3).less HM.out (by omega),HF2.out.trans (.of_below hb3)⟩)
     clear hb3
     go_wp2
     go_ret3
     exact⟨rfl,aZ.out.1,aZ.out.2⟩
   |false=>
    rw[hlf]at hF2 dV hBn hNF hzz hb2
    have Ew:Tp.lN disk σ key f (n.kids.getD (Nd.child n.keys key) 0)= .ok ov:=by have:=HGO.out;rw[hlf]at this;simpa using this
    have hks:Nd.tY n.keys/\n.keys.length+1=n.kids.length:=by
     obtain⟨hr,_⟩:=Tp.bf.1 jP.out
     obtain⟨leaf,ents,kids,keys⟩:=n
     obtain rfl:leaf=false:=hlf
     exact⟨((Nd.jd keys).1 (Nd.aY.1 hr).2.2.2).2,(Nd.aY.1 hr).2.1⟩
    have hci:=Nd.oN n.keys key
    have hkl:n.kids.length<=100000:=(iT jP.out).i
    obtain⟨i,hi⟩:∃i,i=Nd.child n.keys key:=⟨_,rfl⟩
    have HCH:=Lib.hid (fun W hbW=>vg (.agg #[.bool false, .slice N1 n.ents.length c1, .slice N2 n.kids.length c2, .slice N3 n.keys.length c3]) n key W (NF.below hNF hbW).ns (iT jP.out) hks.1)
    rw[<-hi]at HCH hci Ew
    have hik:i<n.kids.length:=by have:=hks.2;omega
    have hge:n.kids.getD i 0=n.kids[i]'hik:=by simp[List.getD,hik]
    rw[hge]at Ew
    obtain⟨bb,oo,rfl,hbb,gk⟩:=HRN.out.2.1.ls.int hik
    have gk2:=(hb2.cell (p:=⟨bb,oo+i,none⟩) hbb).trans gk
    have acj:=Lib.hid Ew
    have hidx:(i:Int)<n.kids.length:=by omega
    have g0:=hBn.cell 0
    have ln:=hBn.lt
    have HBn:=Lib.hid hBn
    have HF2:=Lib.hid hF2
    have iV:=Lib.hid dV
    clear hb2 pG dV hf1 rn hBn hNF hF2 Ew hks hlf hci hi hge gk
    go_wp2_with fail
    generalize (w1.alloc (.cells #[.bool false, .slice N1 n.ents.length c1, .slice (some ⟨bb,oo,none⟩) n.kids.length c2, .slice N3 n.keys.length c3] 146))=w2 at*
    refine bY (base:=w2.heap.size) (fun uu=>⟨#[_,_,_,_,_,_,_,uu 7,_,_,_,_,_,_,_,_,_,_,_,_,_,_,_,_,_,_,_,_,_,_,_,_,_,_,_,_,_,_,_,_,_,_,_,_,_,_,_,_,_,_,_,uu 0,uu 1,uu 2,uu 3,uu 4,uu 5,uu 6],_⟩)
     [Is.eq _ (.pointer (some ⟨w1.heap.size,2,none⟩)),Is.eq _ (.slice (some ⟨bb,oo,none⟩) n.kids.length c2),Is.eq _ (.agg #[.bool false, .slice N1 n.ents.length c1, .slice (some ⟨bb,oo,none⟩) n.kids.length c2, .slice N3 n.keys.length c3]),Is.eq _ (.string key),Is.eq _ (.int .i64 (i:Nat)),Is.eq _ (.pointer (some ⟨bb,oo+i,none⟩)),Is.eq _ (.int .i64 (n.kids[i]'hik)),Is.eq _ (.int .i64 (n.kids[i]'hik))]
     (by kernel_rfl) (by kernel_rfl) (by kernel_rfl) [] rfl (Nat.le_refl _) (by simp) (by simp) ⟨fun k=>if k=7 then .int .i64 idi else(#[u51,u52,u53,u54,u55,u56,u57]:Array Value).getD k undef,rfl⟩ ?_ ?_
    ·intro k o ho uu W hf hold aj
     have hfb:Below w2.heap.size w2 W:=hf.low (Nat.le_refl _) (fun k a=>by simp at a)
     have hBW:=HBn.out.below hfb ln
     have cW:=hBW.cell 2
     match k,ho with
     |0,ho=>obtain rfl:=Option.some.inj ho;exact Does.val (fB rfl rfl) ⟨rfl,rfl,Fr.refl _⟩
     |1,ho=>obtain rfl:=Option.some.inj ho;exact Does.val (bI rfl (aj 0 rfl) cW) ⟨rfl,rfl,Fr.refl _⟩
     |2,ho=>obtain rfl:=Option.some.inj ho;exact Does.val (pz aN rfl rfl hBW rfl) ⟨rfl,rfl,Fr.refl _⟩
     |3,ho=>obtain rfl:=Option.some.inj ho;exact Does.val (dL rfl rfl) ⟨rfl,rfl,Fr.refl _⟩
     |4,ho=>
      obtain rfl:=Option.some.inj ho
      refine Does.call (wW FW rfl (aj 2 rfl) (aj 3 rfl)) (Calls.mono (HCH.out W hfb) ?_)
      rintro e w' ⟨rfl,hb'⟩
      exact⟨_,rfl,rfl,rfl, .of_below hb'⟩
     |5,ho=>obtain rfl:=Option.some.inj ho;exact Does.val (vJ rfl (aj 1 rfl) (aj 4 rfl) hik) ⟨rfl,rfl,Fr.refl _⟩
     |6,ho=>obtain rfl:=Option.some.inj ho;exact Does.val (Cm rfl (aj 5 rfl) ((hfb.cell (p:=⟨bb,oo+i,none⟩) (show bb<w2.heap.size by omega)).trans gk2)) ⟨rfl,rfl,Fr.refl _⟩
     |7,ho=>obtain rfl:=Option.some.inj ho;exact Does.val (JG rfl (aj 6 rfl)) ⟨rfl,rfl,Fr.refl _⟩
     |n+8,ho=>exact absurd ho (by simp)
    ·intro uu W hf hall
     have e7:uu 7= .int .i64 (n.kids[i]'hik):=hall 7 (by decide)
     simp only[e7]
     have hfb:Below w2.heap.size w2 W:=hf.low (Nat.le_refl _) (fun k a=>by simp at a)
     have CB:=Lib.hid (iV.out.below HM.out hfb)
     have HF3:=Lib.hid (HF2.out.trans (.of_below hfb))
     clear hall hf hfb e7
     go_wp2
     go_roundg f
     case measure=>omega
     case rel=>exact⟨d+1,f,_,rfl,by go_num,by omega,Nat.le_refl _,acj,CB,HF3⟩
end
section
variable {S:Nat->Prop}{B t:Nat}{room:Int}{disk:Tp.aA}{TM:Nat->Tp.Pst->World->Prop}
theorem acn{gk gv:Nat}(k v:ByteArray)(hm:En.may k v=true)(hgk:¬S gk)(hgv:¬S gv):ZC S 136 #[.pointer (some ⟨gk,0,none⟩), .pointer (some ⟨gv,0,none⟩)] (Tp.xk k v) (fun W=>Blk W gk 9 #[.string k]/\Blk W gv 9 #[.string v]) where
 keep:=fun h hf=>⟨hf.blk h.1 hgk,hf.blk h.2 hgv⟩
 enters:=fun args w=>by kernel_rfl
 size:=fun l hl=>by have:=(Tp.Qa hm).size l;omega
 call:=fun w A c l hP hsv hl=>by
  have hE:=Lib.hid (VT A c l k v w hsv (by omega))
  have h1:=hP.1.cell 0
  have h2:=hP.2.cell 0
  have l1:=hP.1.lt
  have l2:=hP.2.lt
  have hq:jl l k v=Tp.xk k v l:=rfl
  rw[hq]at hE
  generalize Tp.xk k v l=o at*
  clear hP hq
  show Calls Tryz.prog 136 #[.slice A l.length c, .pointer (some ⟨gk,0,none⟩), .pointer (some ⟨gv,0,none⟩)] w _
  go_enter Tryz.func136,Tryz.ntmps136
  go_wp2_with fail
  refine hE.out.mono ?_
  rintro e w1 ⟨A',c',rfl,hs1,hb1⟩
  have H1:=Lib.hid hs1
  clear hs1
  go_wp2
  go_ret
  exact⟨A',c',rfl,H1.out,hb1⟩
theorem aco{gk:Nat}(k:ByteArray)(hgk:¬S gk):ZC S 134 #[.pointer (some ⟨gk,0,none⟩)] (Tp.xq k) (fun W=>Blk W gk 9 #[.string k]) where
 keep:=fun h hf=>hf.blk h hgk
 enters:=fun args w=>by kernel_rfl
 size:=fun l hl=>by have:=(Tp.Qb k).size l;omega
 call:=fun w A c l hP hsv hl=>by
  have hE:=Lib.hid (VU A c l k w hsv (by omega))
  have h1:=Blk.cell hP 0
  have l1:=Blk.lt hP
  have hq:delS l k=Tp.xq k l:=rfl
  rw[hq]at hE
  generalize Tp.xq k l=o at*
  clear hP hq
  show Calls Tryz.prog 134 #[.slice A l.length c, .pointer (some ⟨gk,0,none⟩)] w _
  go_enter Tryz.func134,Tryz.ntmps134
  go_wp2_with fail
  refine hE.out.mono ?_
  rintro e w1 ⟨A',c',rfl,hs1,hb1⟩
  have H1:=Lib.hid hs1
  clear hs1
  go_wp2
  go_ret
  exact⟨A',c',rfl,H1.out,hb1⟩
theorem TS(M:fU S B t room disk TM)(u:Nat)(root:Int)(k v:ByteArray)(hm:En.may k v=true)(r:Nat)(σ:Tp.Pst)(h3:(Tp.dH room disk (Tp.xk k v) k σ root).1≠ .error 3)(w:World)(h:On S B t u TM root 0 (r+48+192) σ w):
  Calls Tryz.prog 65 #[.pointer (some ⟨u,0,none⟩), .string k, .string v] w (aaN S B t u TM root r (Tp.dH room disk (Tp.xk k v) k σ root) w):=by
 have hsz:=M.size h.tm
 have hb1:=(Below.refl w.heap.size w).alloc (Nat.le_refl _) (.cells #[.string k] 9)
 have hb2:=hb1.alloc hb1.size (.cells #[.string v] 9)
 have hon:=(h.below M hb1).below M (Below.alloc (Below.refl _ _) (Nat.le_refl _) (.cells #[.string v] 9))
 have hBk:=(Blk.new w 9 #[.string k]).alloc (.cells #[.string v] 9)
 have hBv:=Blk.new (w.alloc (.cells #[.string k] 9)) 9 #[.string v]
 simp only[World.size_alloc]at hBv
 have HUP:=Lib.hid (CY M u root (acn k v hm (M.far hsz) (M.far (show B<=w.heap.size+1 by omega))) k r σ h3 _ ⟨hBk,hBv⟩ hon)
 have k0:((w.alloc (.cells #[.string k] 9)).alloc (.cells #[.string v] 9)).cell? ⟨w.heap.size,0,none⟩=some (.string k):=hBk.cell 0
 have kl:=hBk.lt
 have v0:((w.alloc (.cells #[.string k] 9)).alloc (.cells #[.string v] 9)).cell? ⟨w.heap.size+1,0,none⟩=some (.string v):=hBv.cell 0
 have vl:=hBv.lt
 have t2:((w.alloc (.cells #[.string k] 9)).alloc (.cells #[.string v] 9)).cell? ⟨u,2,none⟩=some (.int .i64 0):=hon.self.cell 2
 have lt2:=hon.self.lt
 have hc:=fun W=>ak (check_any k v W)
 rw[Ad hm]at hc
 have HB:=Lib.hid hb2
 obtain⟨o,ho⟩:∃o,o=Tp.dH room disk (Tp.xk k v) k σ root:=⟨_,rfl⟩
 rw[<-ho]at HUP ⊢
 clear hm h hon hb1 hb2 M hBk hBv ho h3
 go_enter Tryz.func65,Tryz.ntmps65
 go_wp2_with fail
 refine(hc _).out.mono ?_
 rintro e _ ⟨rfl,rfl⟩
 go_wp2_with fail
 refine Calls.mono HUP.out ?_
 rintro e w2 ⟨hres,hf⟩
 have HF:=Lib.hid (((Fr.of_below HB.out).trans hf:Fr (fun k=>S k\/k=u) w w2))
 rcases hres with⟨p,hok,rfl,dV⟩ | ⟨herr,rfl,dV⟩
 ·have iV:=Lib.hid dV
  have HOK:=Lib.hid hok
  clear dV hok hf
  go_wp2
  go_ret
  exact⟨.inl ⟨p,HOK.out,rfl,iV.out⟩,HF.out⟩
 ·have iV:=Lib.hid dV
  have HOK:=Lib.hid herr
  clear dV herr hf
  go_wp2
  go_ret
  exact⟨.inr ⟨HOK.out,rfl,iV.out⟩,HF.out⟩
theorem TT(M:fU S B t room disk TM)(u:Nat)(root:Int)(k:ByteArray)(r:Nat)(σ:Tp.Pst)(hfind:Tp.lN disk σ k 24 root= .ok none)(w:World)(h:On S B t u TM root 0 (r+48) σ w):
  Calls Tryz.prog 62 #[.pointer (some ⟨u,0,none⟩), .string k] w fun e w'=>e= .returned (.tuple #[.bool false, .int .i64 0])/\On S B t u TM root 0 r σ w'/\Fr S w w':=by
 have hb1:=(Below.refl w.heap.size w).alloc (Nat.le_refl _) (.cells #[.string k] 9)
 have HG:=Lib.hid (KR M u root k r σ none hfind _ (h.below M hb1))
 have HB:=Lib.hid hb1
 clear h hb1 M hfind
 go_enter Tryz.func62,Tryz.ntmps62
 go_wp2_with fail
 refine Calls.mono HG.out ?_
 rintro e w2 ⟨rfl,hon,hf⟩
 have aZ:=Lib.hid (And.intro hon ((Fr.of_below HB.out).trans hf:Fr S w w2))
 unfold aci
 clear hon hf
 go_wp2
 go_ret2
 exact⟨rfl,aZ.out.1,aZ.out.2⟩
def aeN(S:Nat->Prop)(B t u:Nat)(TM:Nat->Tp.Pst->World->Prop)(root:Int)(r:Nat)(o:Except Int Int × Tp.Pst)(w:World)(e:Ending)(w':World):Prop:=
 ((∃p,o.1= .ok p/\e= .returned (.tuple #[.bool true, .int .i64 0])/\On S B t u TM p 0 r o.2 w')\/(o.1= .error 2/\e= .returned (.tuple #[.bool false, .int .i64 2])/\On S B t u TM root 2 r o.2 w'))/\Fr (fun k=>S k\/k=u) w w'
theorem TU(M:fU S B t room disk TM)(u:Nat)(root:Int)(k v:ByteArray)(r:Nat)(σ:Tp.Pst)(hfind:Tp.lN disk σ k 24 root= .ok (some v))(h3:(Tp.dH room disk (Tp.xq k) k σ root).1≠ .error 3)(w:World)(h:On S B t u TM root 0 (r+48+192+48) σ w):
  Calls Tryz.prog 62 #[.pointer (some ⟨u,0,none⟩), .string k] w (aeN S B t u TM root r (Tp.dH room disk (Tp.xq k) k σ root) w):=by
 have hsz:=M.size h.tm
 have hb1:=(Below.refl w.heap.size w).alloc (Nat.le_refl _) (.cells #[.string k] 9)
 have hBk:=Blk.new w 9 #[.string k]
 have HG:=Lib.hid (KR M u root k (r+48+192) σ (some v) hfind _ (h.below M hb1))
 have HUP:=Lib.hid (fun W hP hon=>CY M u root (aco k (M.far hsz)) k r σ h3 W hP hon)
 have HB:=Lib.hid hb1
 have HBk:=Lib.hid hBk
 have HM:=Lib.hid M
 obtain⟨o,ho⟩:∃o,o=Tp.dH room disk (Tp.xq k) k σ root:=⟨_,rfl⟩
 rw[<-ho]at HUP ⊢
 clear h hb1 M hfind ho h3 hBk
 go_enter Tryz.func62,Tryz.ntmps62
 go_wp2_with fail
 refine Calls.mono HG.out ?_
 rintro e w2 ⟨rfl,hon,hf⟩
 have ZP:=hf.blk HBk.out (HM.out.far hsz)
 have k0:=ZP.cell 0
 have lk:=ZP.lt
 have HU2:=Lib.hid (HUP.out w2 ZP hon)
 have HF2:=Lib.hid (((Fr.of_below HB.out).trans hf:Fr S w w2))
 unfold aci
 clear hon hf ZP
 go_wp2_with fail
 refine Calls.mono HU2.out ?_
 rintro e w3 ⟨hres,hf3⟩
 have HF3:=Lib.hid ((HF2.out.more (S':=fun k=>S k\/k=u) (fun _=> .inl)).trans hf3)
 rcases hres with⟨p,hok,rfl,dV⟩ | ⟨herr,rfl,dV⟩
 ·have iV:=Lib.hid dV
  have HOK:=Lib.hid hok
  clear dV hok hf3
  go_wp2
  go_ret2
  exact⟨.inl ⟨p,HOK.out,rfl,iV.out⟩,HF3.out⟩
 ·have iV:=Lib.hid dV
  have HOK:=Lib.hid herr
  have t2:=dV.self.cell 2
  have ft2:=dV.self.frozen 2
  have lt2:=dV.self.lt
  clear dV herr hf3
  go_wp2
  go_ret2
  exact⟨.inr ⟨HOK.out,rfl,iV.out.write HM.out (Fr.aW (S:=fun k=>k=u) rfl _) (iV.out.self.aW 2 (.int .i64 2))⟩,HF3.out.trans ((Fr.aW (S:=fun k=>k=u) rfl _).more fun _=> .inr)⟩
end
end Go.Proofs.YteppebbmnojapaaGreatDoor
