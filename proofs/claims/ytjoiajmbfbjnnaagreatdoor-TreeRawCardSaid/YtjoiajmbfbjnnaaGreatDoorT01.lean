/- Part of this proof. -/
import Derived.Laws.BitsAllLaws
import Derived.Laws.BitsLemmas
import Derived.Test.YtjoiajmbfbjnnaaGreatDoorT00
set_option maxRecDepth 100000
set_option maxHeartbeats 8000000
namespace Tp
open Nd
abbrev Disk:=Int->Option Node
def Use(used:List Run)(σ:Pst)(x:Int):Prop:=x∈σ.mine\/Rp.Mem used x
abbrev ApS (room:Int) (used:List Run) (σ:Pst):Prop:=Rp.Ap room σ.free used σ.mine σ.pages
structure Step(room:Int)(disk:Disk)(used:List Run)(σ:Pst)(A:Int->Prop)(σ':Pst)(A':Int->Prop):Prop where
 ap:ApS room used σ'
 mem:∀x,x∈σ'.mine ↔ (x∈σ.mine/\¬A x)\/(A' x/\¬Rp.Mem used x)
 keep:∀x,¬A x->Use used σ x->σ'.view disk x=σ.view disk x
 new:∀x,A' x->A x\/¬Use used σ x
section
variable {room:Int}{disk:Disk}{used:List Run}{σ σ1 σ2:Pst}{A A1 B B1:Int->Prop}
theorem Step.use(h:Step room disk used σ A σ1 A1){x:Int}(hu:Use used σ x)(hA:¬A x):Use used σ1 x:=by
 rcases hu with hu | hu
 ·exact .inl ((h.mem x).2 (.inl ⟨hu,hA⟩))
 ·exact .inr hu
theorem Step.got(h:Step room disk used σ A σ1 A1){x:Int}(hA:A1 x):Use used σ1 x:=by
 by_cases hu:Rp.Mem used x
 ·exact .inr hu
 ·exact .inl ((h.mem x).2 (.inr ⟨hA,hu⟩))
theorem Step.comp(h1:Step room disk used σ A σ1 A1)(h2:Step room disk used σ1 B σ2 B1):Step room disk used σ (fun x=>A x\/(B x/\¬A1 x)) σ2 (fun x=>(A1 x/\¬B x)\/B1 x):=by
 have hnew:∀x,x∈σ.mine->¬A x->¬A1 x:=fun x hm hA hA1=>by
  rcases h1.new x hA1 with h | h
  ·exact hA h
  ·exact h (.inl hm)
 refine⟨h2.ap,fun x=> ?_,fun x hx hu=> ?_,fun x hx=> ?_⟩
 ·rw[h2.mem,h1.mem]
  have hn:=hnew x
  by_cases a:A x<;>by_cases a1:A1 x<;>by_cases b:B x<;>by_cases b1:B1 x<;>by_cases m:x∈σ.mine<;>by_cases u:Rp.Mem used x<;>simp_all
 ·have hA:¬A x:=fun h=>hx (.inl h)
  have hA1:¬A1 x:=fun h=>by
   rcases h1.new x h with h | h
   ·exact hA h
   ·exact h hu
  have hB:¬B x:=fun h=>hx (.inr ⟨h,hA1⟩)
  rw[h2.keep x hB (h1.use hu hA),h1.keep x hA hu]
 ·rcases hx with⟨ha,hb⟩ | hb
  ·rcases h1.new x ha with h | h
   ·exact .inl (.inl h)
   ·exact .inr h
  ·rcases h2.new x hb with h | h
   ·by_cases ha:A1 x
    ·rcases h1.new x ha with h | h
     ·exact .inl (.inl h)
     ·exact .inr h
    ·exact .inl (.inr ⟨h,ha⟩)
   ·by_cases ha:A x
    ·exact .inl (.inl ha)
    ·exact .inr fun hu=>h (h1.use hu ha)
theorem Step.congr{A' A1':Int->Prop}(h:Step room disk used σ A σ1 A1)(h1:∀x,A x ↔ A' x)(h2:∀x,A1 x ↔ A1' x):Step room disk used σ A' σ1 A1':=
 ⟨h.ap,fun x=>by rw[h.mem,h1,h2],fun x hx=>h.keep x (fun hh=>hx ((h1 x).1 hh)),fun x hx=>(h.new x ((h2 x).2 hx)).imp_left (h1 x).1⟩
theorem view_mine{x:Int}(h:x∈σ.mine):σ.view disk x=σ.nd x:=if_pos h
theorem view_used(h:ApS room used σ){x:Int}(hx:Rp.Mem used x):σ.view disk x=disk x:=by
 unfold Pst.view
 have hr:=h.hu x hx
 have hf:Rp.has σ.free x=false:=Rp.has_used fun hf=>h.fu x hf hx
 rw[if_neg (h.um x hx),if_pos ⟨hr.1,hr.2,hf⟩]
theorem use_range(h:ApS room used σ){x:Int}(hu:Use used σ x):2<=x/\x<room:=by
 have hp:=h.pg
 rcases hu with hu | hu
 ·have:=h.hm x hu;omega
 ·have:=h.hu x hu;omega
def spare(room:Int)(used:List Run):Int:=room-2-((Rp.nums used).length:Int)
theorem alloc_none(h:ApS room used σ)(ha:pAlloc room σ=none):spare room used<=(σ.mine.length:Int):=by
 unfold pAlloc at ha
 have ha2:allocV σ.free σ.pages room=none:=by
  cases hv:allocV σ.free σ.pages room with
  |none=>rfl
  |some p=>rw[hv]at ha;cases ha
 unfold allocV at ha2
 cases hf:Rp.least σ.free with
 |some id=>rw[hf]at ha2;cases ha2
 |none=>
  rw[hf]at ha2
  simp only at ha2
  have hp:room<=σ.pages:=by
   by_cases hp:room<=σ.pages
   ·exact hp
   ·rw[if_neg hp]at ha2;cases ha2
  have hpg:=h.pg
  have hno:=Rp.least_none h.cf hf
  have hsub:(List.range (room-2).toNat).map (fun i:Nat=>2+(i:Int)) ⊆ σ.mine++Rp.nums used:=fun x hx=>by
   obtain⟨i,hi,rfl⟩:=List.mem_map.1 hx
   rw[List.mem_range]at hi
   rw[List.mem_append,Rp.mem_nums]
   rcases h.all (2+(i:Int)) (by omega) (by omega)with h1 | h1 | h1
   ·exact absurd h1 (hno _)
   ·exact .inr h1
   ·exact .inl h1
  have hl:=List.Nodup.length_le_of_subset (Rp.range_nodup 2 _) hsub
  rw[List.length_append]at hl
  unfold spare
  simp only[List.length_map,List.length_range]at hl
  omega
theorem alloc_some(h:ApS room used σ){id:Int}(ha:pAlloc room σ=some (id,σ1)):
  Step room disk used σ (fun _=>False) σ1 (fun x=>x=id)/\σ1.mine=σ.mine++ [id]/\¬Use used σ id:=by
 unfold pAlloc at ha
 cases hv:allocV σ.free σ.pages room with
 |none=>rw[hv]at ha;cases ha
 |some p=>
  obtain⟨id',fr,p'⟩:=p
  rw[hv]at ha
  simp only[Option.some.injEq,Prod.mk.injEq]at ha
  obtain⟨rfl,rfl⟩:=ha
  have key:id' ∉ σ.mine/\Rp.has used id'=false/\Rp.Ap room fr used (σ.mine++ [id']) p':=by
   unfold allocV at hv
   cases hf:Rp.least σ.free with
   |some id=>
    rw[hf]at hv
    simp only[Option.some.injEq,Prod.mk.injEq]at hv
    obtain⟨rfl,rfl,rfl⟩:=hv
    obtain⟨h1,h2,_,_,h5⟩:=h.free (id:=id) hf
    exact⟨h1,h2,h5⟩
   |none=>
    rw[hf]at hv
    simp only at hv
    by_cases hp:room<=σ.pages
    ·rw[if_pos hp]at hv;cases hv
    ·rw[if_neg hp]at hv
     simp only[Option.some.injEq,Prod.mk.injEq]at hv
     obtain⟨rfl,rfl,rfl⟩:=hv
     exact h.fresh (by omega)
  obtain⟨k1,k2,k3⟩:=key
  have hnu:¬Rp.Mem used id':=fun hu=>by
   have hr:=h.hu id' hu
   have hpg:=h.pg
   have:Rp.has used id'=true:=(Rp.has_iff _ _).2 ⟨by omega,by unfold Rp.Most;omega,hu⟩
   rw[k2]at this;cases this
  refine⟨⟨k3,fun x=> ?_,fun x _ hu=> ?_,fun x hx=> ?_⟩,rfl, ?_⟩
  ·simp only[List.mem_append,List.mem_singleton,not_false_eq_true,and_true]
   constructor
   ·rintro(hx | rfl)
    ·exact .inl hx
    ·exact .inr ⟨rfl,hnu⟩
   ·rintro(hx | ⟨hx,_⟩)
    ·exact .inl hx
    ·exact .inr hx
  ·rcases hu with hu | hu
   ·have hne:x≠id':=fun e=>k1 (e ▸ hu)
    rw[view_mine (σ:=σ) hu]
    rw[view_mine (σ:=⟨fr,p',σ.mine++ [id'],_⟩) (List.mem_append_left _ hu)]
    show(if x=id' then none else σ.nd x)=_
    rw[if_neg hne]
   ·rw[view_used h hu]
    exact view_used (σ:=⟨fr,p',σ.mine++ [id'],_⟩) k3 hu
  ·subst hx
   exact .inr fun hu=>hu.elim k1 hnu
  ·exact fun hu=>hu.elim k1 hnu
theorem put_step(h:ApS room used σ){id:Int}(hid:id∈σ.mine)(n:Node):Step room disk used σ (fun x=>x=id) (σ.put id n) (fun x=>x=id)/\(σ.put id n).view disk id=some n:=by
 refine⟨⟨h,fun x=> ?_,fun x hx hu=> ?_,fun x hx=> .inl hx⟩, ?_⟩
 ·show x∈σ.mine ↔ _
  constructor
  ·intro hx
   by_cases e:x=id
   ·exact .inr ⟨e,fun hu=>h.um x hu hx⟩
   ·exact .inl ⟨hx,e⟩
  ·rintro(⟨hx,_⟩ | ⟨rfl,_⟩)
   ·exact hx
   ·exact hid
 ·unfold Pst.view Pst.put
  simp only[if_neg hx]
 ·unfold Pst.view Pst.put
  simp only[if_pos hid,if_true]
theorem save_ok(h:ApS room used σ){id pg:Int}{n:Node}(hs:pSave room σ id n=(.ok pg,σ1)):
  Step room disk used σ (fun x=>x=id) σ1 (fun x=>x=pg)/\σ1.view disk pg=some n/\fits n=true/\σ1.mine.length<=σ.mine.length+1:=by
 unfold pSave at hs
 cases hf:fits n with
 |false=>rw[hf]at hs;simp at hs
 |true=>
  rw[hf]at hs
  simp only[Bool.true_eq_false,if_false]at hs
  by_cases hid:id∈σ.mine
  ·rw[if_pos hid]at hs
   simp only[Prod.mk.injEq,Except.ok.injEq]at hs
   obtain⟨rfl,rfl⟩:=hs
   obtain⟨h1,h2⟩:=put_step (disk:=disk) h hid n
   exact⟨h1,h2,rfl,Nat.le_succ _⟩
  ·rw[if_neg hid]at hs
   cases ha:pAlloc room σ with
   |none=>rw[ha]at hs;simp at hs
   |some p=>
    obtain⟨id',σ'⟩:=p
    rw[ha]at hs
    simp only[Prod.mk.injEq,Except.ok.injEq]at hs
    obtain⟨rfl,rfl⟩:=hs
    obtain⟨h1,h2,h3⟩:=alloc_some (disk:=disk) h ha
    obtain⟨h4,h5⟩:=put_step (disk:=disk) h1.ap (id:=id') (by rw[h2];simp) n
    refine⟨⟨h4.ap,fun x=> ?_,fun x hx hu=> ?_,fun x hx=> .inr (hx ▸ h3)⟩,h5,rfl,by show σ'.mine.length<=_;rw[h2];simp⟩
    ·have e:=(h1.comp h4).mem x
     rw[e]
     constructor
     ·rintro(⟨m,_⟩ | ⟨hx,hu⟩)
      ·exact .inl ⟨m,fun e=>hid (e ▸ m)⟩
      ·rcases hx with⟨hx,_⟩ | hx<;>exact .inr ⟨hx,hu⟩
     ·rintro(⟨m,_⟩ | ⟨hx,hu⟩)
      ·exact .inl ⟨m,fun hh=>by
        rcases hh with hh | ⟨hh,hn⟩
        ·exact hh
        ·exact hn hh⟩
      ·exact .inr ⟨.inr hx,hu⟩
    ·refine(h1.comp h4).keep x (fun hh=> ?_) hu
     rcases hh with hh | ⟨hh,hn⟩
     ·exact hh
     ·exact hn hh
theorem save_err(h:ApS room used σ){id e:Int}{n:Node}(hn:fits n=true)(hs:pSave room σ id n=(.error e,σ1)):e=2/\σ1=σ/\spare room used<=(σ.mine.length:Int):=by
 unfold pSave at hs
 rw[hn]at hs
 simp only[Bool.true_eq_false,if_false]at hs
 by_cases hid:id∈σ.mine
 ·rw[if_pos hid]at hs;simp at hs
 ·rw[if_neg hid]at hs
  cases ha:pAlloc room σ with
  |none=>
   rw[ha]at hs
   simp only[Prod.mk.injEq,Except.error.injEq]at hs
   exact⟨hs.1.symm,hs.2.symm,alloc_none h ha⟩
  |some p=>rw[ha]at hs;simp at hs
end
end Tp
namespace Tp
open Nd En
structure Sub where
 id:Int
 ids:List Int
 es:List En.Ent
 tok:Nat
def gtLo(lo:Option Str)(k:Str):Prop:=∀a,lo=some a->lt k a=false
def ltHi(hi:Option Str)(k:Str):Prop:=∀b,hi=some b->lt k b=true
def LoLe(lo' lo:Option Str):Prop:=∀k,gtLo lo k->gtLo lo' k
def HiLe(hi hi':Option Str):Prop:=∀k,ltHi hi k->ltHi hi' k
theorem LoLe.refl(lo:Option Str):LoLe lo lo:=fun _ h=>h
theorem HiLe.refl(hi:Option Str):HiLe hi hi:=fun _ h=>h
theorem gtLo_some{a k:Str} :gtLo (some a) k ↔ lt k a=false:=⟨fun h=>h a rfl,fun h b e=>by cases e;exact h⟩
theorem ltHi_some{a k:Str} :ltHi (some a) k ↔ lt k a=true:=⟨fun h=>h a rfl,fun h b e=>by cases e;exact h⟩
theorem not_lt_trans{a b c:Str}(h:lt b a=false)(h':lt c b=false):lt c a=false:=by
 cases e:lt c a with
 |false=>rfl
 |true=>
  rcases ge_of h with h1 | h1
  ·subst h1;rw[h']at e;cases e
  ·have:=lt_trans e h1;rw[h']at this;cases this
theorem gtLo.up{lo:Option Str}{y k:Str}(h:gtLo lo y)(hk:lt k y=false):gtLo lo k:=fun a e=>not_lt_trans (h a e) hk
theorem ltHi.down{hi:Option Str}{z k:Str}(h:ltHi hi z)(hk:lt z k=false):ltHi hi k:=fun b e=>by
 have hz:=h b e
 rcases ge_of hk with h1 | h1
 ·subst h1;exact hz
 ·exact lt_trans h1 hz
theorem LoLe.of{lo:Option Str}{k:Str}(h:gtLo lo k):LoLe lo (some k):=fun _ hj=>h.up (gtLo_some.1 hj)
theorem HiLe.of{hi:Option Str}{k:Str}(h:ltHi hi k):HiLe (some k) hi:=fun _ hj=>h.down (lt_not (ltHi_some.1 hj))
abbrev SubP:=Option Str->Option Str->Sub->Prop
def Chain(P:SubP):Option Str->Option Str->List Sub->List Str->Prop
 |lo,hi, [s], []=>P lo hi s
 |lo,hi,s::rest,k::ks=>P lo (some k) s/\Chain P (some k) hi rest ks
 |_,_,_,_=>False
def ids_(l:List Sub):List Int:=l.flatMap (·.ids)
def es_(l:List Sub):List En.Ent:=l.flatMap (·.es)
def toks(l:List Sub):Nat:=(l.map (·.tok)).sum
theorem es_append(a b:List Sub):es_ (a++b)=es_ a++es_ b:=by unfold es_;rw[List.flatMap_append]
theorem es_cons(s:Sub)(b:List Sub):es_ (s::b)=s.es++es_ b:=by unfold es_;rw[List.flatMap_cons]
theorem toks_cons(s:Sub)(b:List Sub):toks (s::b)=s.tok+toks b:=by unfold toks;rw[List.map_cons,List.sum_cons]
structure Good(P:SubP):Prop where
 mono:∀ {lo hi lo' hi' s},LoLe lo' lo->HiLe hi hi'->P lo hi s->P lo' hi' s
 ne:∀ {lo hi s},P lo hi s->s.es≠ []
 inn:∀ {lo hi s},P lo hi s->∀x∈s.es,gtLo lo x.1/\ltHi hi x.1
 srt:∀ {lo hi s},P lo hi s->En.right s.es=true
section
variable {P:SubP}{lo hi lo' hi':Option Str}{s:Sub}{subs a b:List Sub}{k:Str}{keys ka kb:List Str}
theorem chain_cons:Chain P lo hi (s::subs) (k::keys) ↔ P lo (some k) s/\Chain P (some k) hi subs keys:=by
 cases subs<;>exact Iff.rfl
theorem chain_len:∀ {subs:List Sub} {keys:List Str} {lo:Option Str},Chain P lo hi subs keys->keys.length+1=subs.length
 | [s], [],_,_=>rfl
 |s::rest,k::ks,_,h=>by
  have:=chain_len (chain_cons.1 h).2
  simp only[List.length_cons];omega
 | [],_,_,h=>by cases h
 |_::_::_, [],_,h=>by cases h
theorem chain_ne(h:Chain P lo hi subs keys):subs≠ []:=fun e=>by subst e;cases h
theorem chain_mono(G:Good P):∀ {subs:List Sub} {keys:List Str} {lo lo':Option Str},LoLe lo' lo->HiLe hi hi'->Chain P lo hi subs keys->Chain P lo' hi' subs keys
 | [s], [],_,_,h1,h2,h=>G.mono h1 h2 h
 |s::rest,k::ks,_,_,h1,h2,h=>by
  obtain⟨p,q⟩:=chain_cons.1 h
  exact chain_cons.2 ⟨G.mono h1 (HiLe.refl _) p,chain_mono G (LoLe.refl _) h2 q⟩
 | [],_,_,_,_,_,h=>by cases h
 |_::_::_, [],_,_,_,_,h=>by cases h
theorem chain_all:∀ {subs:List Sub} {keys:List Str} {lo:Option Str},Chain P lo hi subs keys->∀s∈subs,∃l h,P l h s
 | [s], [],lo,h,t,ht=>by rw[List.mem_singleton]at ht;subst ht;exact⟨lo,hi,h⟩
 |s::rest,k::ks,lo,h,t,ht=>by
  obtain⟨p,q⟩:=chain_cons.1 h
  rcases List.mem_cons.1 ht with rfl | ht
  ·exact⟨_,_,p⟩
  ·exact chain_all q t ht
 | [],_,_,h,_,_=>by cases h
 |_::_::_, [],_,h,_,_=>by cases h
theorem ne_exists{l:List En.Ent}(h:l≠ []):∃x,x∈l:=by
 cases l with
 |nil=>exact absurd rfl h
 |cons x l=>exact⟨x,List.mem_cons_self⟩
theorem chain_range(G:Good P):∀ {subs:List Sub} {keys:List Str} {lo:Option Str},Chain P lo hi subs keys->(∃x,x∈es_ subs)/\(∀x∈es_ subs,gtLo lo x.1/\ltHi hi x.1)/\(∀k∈keys,gtLo lo k/\ltHi hi k)/\KSrt keys/\(∀k'∈keys,∀a,lo=some a->lt a k'=true)
 | [s], [],lo,h=>by
  have e:es_ [s]=s.es:=by simp[es_]
  rw[e]
  exact⟨ne_exists (G.ne h),G.inn h,(fun k hk=>by cases hk),List.Pairwise.nil,(fun k hk=>by cases hk)⟩
 |s::rest,k::ks,lo,h=>by
  obtain⟨p,q⟩:=chain_cons.1 h
  obtain⟨⟨z,hz⟩,r2,r3,r4,r5⟩:=chain_range G q
  obtain⟨y,hy⟩:=ne_exists (G.ne p)
  have hyk:=ltHi_some.1 (G.inn p y hy).2
  have hylo:=(G.inn p y hy).1
  have hklo:gtLo lo k:=hylo.up (lt_not hyk)
  have hzk:=gtLo_some.1 (r2 z hz).1
  have hkhi:ltHi hi k:=(r2 z hz).2.down hzk
  rw[es_cons]
  refine⟨⟨y,List.mem_append_left _ hy⟩,fun x hx=> ?_,fun j hj=> ?_, ?_,fun j hj a e=> ?_⟩
  ·rcases List.mem_append.1 hx with hx | hx
   ·have:=G.inn p x hx
    exact⟨this.1,HiLe.of hkhi x.1 this.2⟩
   ·have:=r2 x hx
    exact⟨LoLe.of hklo x.1 this.1,this.2⟩
  ·rcases List.mem_cons.1 hj with rfl | hj
   ·exact⟨hklo,hkhi⟩
   ·have:=r3 j hj
    exact⟨LoLe.of hklo j this.1,this.2⟩
  ·exact List.pairwise_cons.2 ⟨fun j hj=>r5 j hj k rfl,r4⟩
  ·have hak:lt a k=true:=lt_of_ge_lt (hylo a e) hyk
   rcases List.mem_cons.1 hj with rfl | hj
   ·exact hak
   ·exact lt_trans hak (r5 j hj k rfl)
 | [],_,_,h=>by cases h
 |_::_::_, [],_,h=>by cases h
where
 lt_of_ge_lt {a y k:Str} (h:lt y a=false) (h':lt y k=true):lt a k=true:=by
  rcases ge_of h with e | e
  ·subst e;exact h'
  ·exact lt_trans e h'
theorem right_append{l1 l2:List En.Ent}{k:Str}(h1:En.right l1=true)(h2:En.right l2=true)(ha:∀x∈l1,lt x.1 k=true)(hb:∀x∈l2,lt x.1 k=false):En.right (l1++l2)=true:=by
 obtain⟨a1,a2⟩:=(right_iff _).1 h1
 obtain⟨b1,b2⟩:=(right_iff _).1 h2
 refine(right_iff _).2 ⟨fun x hx=> ?_, ?_⟩
 ·rcases List.mem_append.1 hx with hx | hx
  ·exact a1 x hx
  ·exact b1 x hx
 ·unfold Srt at*
  rw[List.pairwise_append]
  exact⟨a2,b2,fun x hx y hy=>lt_of_lt_ge (ha x hx) (hb y hy)⟩
theorem chain_right(G:Good P):∀ {subs:List Sub} {keys:List Str} {lo:Option Str},Chain P lo hi subs keys->En.right (es_ subs)=true
 | [s], [],lo,h=>by
  have e:es_ [s]=s.es:=by simp[es_]
  rw[e];exact G.srt h
 |s::rest,k::ks,lo,h=>by
  obtain⟨p,q⟩:=chain_cons.1 h
  rw[es_cons]
  exact right_append (k:=k) (G.srt p) (chain_right G q) (fun x hx=>ltHi_some.1 (G.inn p x hx).2) (fun x hx=>gtLo_some.1 ((chain_range G q).2.1 x hx).1)
 | [],_,_,h=>by cases h
 |_::_::_, [],_,h=>by cases h
theorem chain_join:∀ {a:List Sub} {ka:List Str} {lo:Option Str},Chain P lo (some k) a ka->Chain P (some k) hi b kb->Chain P lo hi (a++b) (ka++k::kb)
 | [s], [],_,h,h'=>chain_cons.2 ⟨h,h'⟩
 |s::rest,j::ks,_,h,h'=>by
  obtain⟨p,q⟩:=chain_cons.1 h
  exact chain_cons.2 ⟨p,chain_join q h'⟩
 | [],_,_,h,_=>by cases h
 |_::_::_, [],_,h,_=>by cases h
theorem chain_congr{P Q:SubP} :∀ {subs:List Sub} {keys:List Str} {lo hi:Option Str},(∀s∈subs,∀l h,P l h s->Q l h s)->Chain P lo hi subs keys->Chain Q lo hi subs keys
 | [s], [],_,_,hh,h=>hh s List.mem_cons_self _ _ h
 |s::rest,k::ks,_,_,hh,h=>by
  obtain⟨p,q⟩:=chain_cons.1 h
  exact chain_cons.2 ⟨hh s List.mem_cons_self _ _ p,chain_congr (fun t ht=>hh t (List.mem_cons_of_mem _ ht)) q⟩
 | [],_,_,_,_,h=>by cases h
 |_::_::_, [],_,_,_,h=>by cases h
theorem chain_at(G:Good P):∀ {subs:List Sub} {keys:List Str} {lo:Option Str} {i:Nat},Chain P lo hi subs keys->(hi':i<subs.length)->
  ∃l h,P l h subs[i]/\LoLe lo l/\HiLe h hi/\(∀ (Q:SubP) parts pk,(∀s,(s∈subs.take i\/s∈subs.drop (i+1))->∀l h,P l h s->Q l h s)->Chain Q l h parts pk->Chain Q lo hi (subs.take i++parts++subs.drop (i+1)) (keys.take i++pk++keys.drop i))/\
   (∀key,gtLo l key->ltHi h key->(∀x∈es_ (subs.take i),lt x.1 key=true)/\(∀x∈es_ (subs.drop (i+1)),lt key x.1=true))/\(∀key,child keys key=i->gtLo lo key->ltHi hi key->gtLo l key/\ltHi h key)
 | [s], [],lo,0,h,_=>⟨lo,hi,h,LoLe.refl _,HiLe.refl _,fun Q parts pk _ hp=>by simpa using hp,fun key _ _=>⟨by simp[es_],by simp[es_]⟩,fun key _ h1 h2=>⟨h1,h2⟩⟩
 |s::rest,k::ks,lo,0,h,_=>by
  obtain⟨p,q⟩:=chain_cons.1 h
  obtain⟨_,r2,_,_,_⟩:=chain_range G q
  have hk:=((chain_range G h).2.2.1 k List.mem_cons_self)
  refine⟨lo,some k,p,LoLe.refl _,HiLe.of hk.2,fun Q parts pk hQ hp=> ?_,fun key _ h2=>⟨by simp[es_],fun x hx=> ?_⟩,fun key hc h1 _=>⟨h1, ?_⟩⟩
  ·have:=chain_join hp (chain_congr (Q:=Q) (fun s hs=>hQ s (.inr (by simpa using hs))) q)
   simpa using this
  ·exact lt_of_lt_ge (ltHi_some.1 h2) (gtLo_some.1 (r2 x (by simpa using hx)).1)
  ·unfold child at hc
   by_cases e:lt key k=true
   ·exact ltHi_some.2 e
   ·rw[if_neg e]at hc;omega
 |s::rest,k::ks,lo,i+1,h,hi'=>by
  obtain⟨p,q⟩:=chain_cons.1 h
  have hk:=((chain_range G h).2.2.1 k List.mem_cons_self)
  obtain⟨l,hh,h1,h2,h3,h4,h5,h6⟩:=chain_at G (i:=i) q (by simpa using hi')
  refine⟨l,hh,h1,fun j hj=>LoLe.of hk.1 j (h2 j hj),h3,fun Q parts pk hQ hp=> ?_,fun key g1 g2=>⟨fun x hx=> ?_,fun x hx=> ?_⟩,fun key hc g1 g2=> ?_⟩
  ·have:=h4 Q parts pk (fun s hs=>hQ s (by
    rcases hs with hs | hs
    ·exact .inl (by rw[List.take_succ_cons];exact List.mem_cons_of_mem _ hs)
    ·exact .inr (by simpa using hs))) hp
   simp only[List.take_succ_cons,List.drop_succ_cons,List.cons_append]
   exact chain_cons.2 ⟨hQ s (.inl (by rw[List.take_succ_cons];exact List.mem_cons_self)) _ _ p,this⟩
  ·rw[List.take_succ_cons,es_cons]at hx
   rcases List.mem_append.1 hx with hx | hx
   ·exact lt_of_lt_ge (ltHi_some.1 (G.inn p x hx).2) (gtLo_some.1 (h2 key g1))
   ·exact(h5 key g1 g2).1 x hx
  ·exact(h5 key g1 g2).2 x (by simpa using hx)
  ·unfold child at hc
   by_cases e:lt key k=true
   ·rw[if_pos e]at hc;omega
   ·rw[if_neg e]at hc
    exact h6 key (by omega) (gtLo_some.2 (by simpa using e)) g2
 | [],_,_,_,h,_=>by cases h
 |_::_::_, [],_,_,h,_=>by cases h
 | [_], [],_,_+1,_,hi'=>by simp at hi'
end
def Tr(v:Int->Option Node):Nat->SubP
 |0,lo,hi,s=>v s.id=some (mkLeaf s.es)/\s.ids= [s.id]/\fits (mkLeaf s.es)=true/\s.es≠ []/\(∀x∈s.es,gtLo lo x.1/\ltHi hi x.1)/\s.es.length<=s.tok
 |h+1,lo,hi,s=>∃subs keys,v s.id=some (mkInner (subs.map (·.id)) keys)/\fits (mkInner (subs.map (·.id)) keys)=true/\s.ids=s.id::ids_ subs/\s.es=es_ subs/\toks subs<=s.tok/\(∀t∈subs,6 ^ h<=t.tok)/\Chain (Tr v h) lo hi subs keys
theorem fits_iff{n:Node} :fits n=true ↔ right n=true/\size n<=240:=by unfold fits;rw[Bool.and_eq_true,decide_eq_true_eq]
theorem tr_good(v:Int->Option Node):∀h,Good (Tr v h)
 |0=>by
  refine⟨fun h1 h2 hs=> ?_,fun hs=>hs.2.2.2.1,fun hs=>hs.2.2.2.2.1,fun hs=> ?_⟩
  ·obtain⟨a,b,c,d,e,f⟩:=hs
   exact⟨a,b,c,d,fun x hx=>⟨h1 _ (e x hx).1,h2 _ (e x hx).2⟩,f⟩
  ·exact(right_leaf.1 (fits_iff.1 hs.2.2.1).1).1
 |h+1=>by
  have G:=tr_good v h
  refine⟨fun h1 h2 hs=> ?_,fun hs=> ?_,fun hs=> ?_,fun hs=> ?_⟩
  ·obtain⟨subs,keys,a,b,c,d,e,f,g⟩:=hs
   exact⟨subs,keys,a,b,c,d,e,f,chain_mono G h1 h2 g⟩
  ·obtain⟨subs,keys,a,b,c,d,e,f,g⟩:=hs
   rw[d]
   obtain⟨x,hx⟩:=(chain_range G g).1
   exact List.ne_nil_of_mem hx
  ·obtain⟨subs,keys,a,b,c,d,e,f,g⟩:=hs
   rw[d]
   exact(chain_range G g).2.1
  ·obtain⟨subs,keys,a,b,c,d,e,f,g⟩:=hs
   rw[d]
   exact chain_right G g
theorem mem_ids{subs:List Sub}{s:Sub}(hs:s∈subs){x:Int}(hx:x∈s.ids):x∈ids_ subs:=by
 unfold ids_;rw[List.mem_flatMap];exact⟨s,hs,hx⟩
theorem tr_id{v:Int->Option Node}{h:Nat}{lo hi:Option Str}{s:Sub}(hs:Tr v h lo hi s):s.id∈s.ids:=by
 cases h with
 |zero=>rw[hs.2.1];exact List.mem_cons_self
 |succ h=>
  obtain⟨subs,keys,a,b,c,_⟩:=hs
  rw[c];exact List.mem_cons_self
def Res{α:Type}(room:Int)(disk:Disk)(used:List Run)(σ:Pst)(A:Int->Prop)(N:Nat)(r:Except Int α × Pst)(Q:α->Pst->List Int->Prop):Prop:=
 (∃a ids,r.1= .ok a/\Step room disk used σ A r.2 (fun x=>x∈ids)/\ids.Nodup/\r.2.mine.length<=σ.mine.length+N/\Q a r.2 ids)\/
 (r.1= .error 2/\ApS room used r.2/\spare room used<=(σ.mine.length:Int)+N)
section
variable {room:Int}{disk:Disk}{used:List Run}{σ σ1 σ2:Pst}{A A1 A2 B B1:Int->Prop}
theorem Step.shrink(h:Step room disk used σ A σ1 A1)(h1:∀x,A x->¬A2 x->¬Use used σ x)(h2:∀x,A2 x->A x):Step room disk used σ A2 σ1 A1:=by
 refine⟨h.ap,fun x=> ?_,fun x hx hu=>h.keep x (fun ha=>h1 x ha hx hu) hu,fun x hx=> ?_⟩
 ·rw[h.mem]
  constructor
  ·rintro(⟨m,a⟩ | r)
   ·exact .inl ⟨m,fun ha=>a (h2 x ha)⟩
   ·exact .inr r
  ·rintro(⟨m,a⟩ | r)
   ·exact .inl ⟨m,fun ha=>h1 x ha a (.inl m)⟩
   ·exact .inr r
 ·rcases h.new x hx with ha | hu
  ·by_cases ha2:A2 x
   ·exact .inl ha2
   ·exact .inr (h1 x ha ha2)
  ·exact .inr hu
theorem no_zero(h:ApS room used σ){x:Int}(hx:x<2):¬Use used σ x:=fun hu=>by have:=use_range h hu;omega
theorem store_one(h:ApS room used σ)(f:Nat)(id:Int){n:Node}(hne:n.ents.length+n.kids.length≠0)(hn:fits n=true):
  Res room disk used σ (fun x=>x=id) 1 (pStore room (f+1) σ id n) (fun p σ' ids=>∃pg,p=([pg], [])/\ids= [pg]/\σ'.view disk pg=some n):=by
 have hc:cut n=none:=by unfold cut;rw[if_neg (by have:=(fits_iff.1 hn).2;omega)]
 unfold pStore
 rw[if_neg hne,hc]
 simp only
 cases hs:pSave room σ id n with
 |mk r σ'=>
  cases r with
  |ok pg=>
   obtain⟨h1,h2,_,h4⟩:=save_ok (disk:=disk) h hs
   exact .inl ⟨([pg], []), [pg],rfl,h1.congr (fun _=>Iff.rfl) (fun x=>by simp),by simp,h4,pg,rfl,rfl,h2⟩
  |error e=>
   obtain⟨rfl,rfl,h3⟩:=save_err h hn hs
   exact .inr ⟨rfl,h,by omega⟩
end
theorem half_spec(all len:Nat)(hall:0<all):∀ (r:List En.Ent) (i n:Nat),i+r.length=len->r≠ []->0<i\/2<=r.length->(0<i->2*n<all+2*58)->(i=0->n=0)->(∀x∈r,esz x<=58)->
  ∃j,j<r.length/\halfFrom all len i n r=i+j/\0<i+j/\2*(n+esize (r.take j))<all+2*58/\(all<=2*(n+esize (r.take j))\/i+j+1=len)
 | [],_,_,_,h,_,_,_,_=>absurd rfl h
 |x::r,i,n,hl,_,h2,hn,h0,hx=>by
  unfold halfFrom
  by_cases hc:0<i/\(all<=2*n\/i+1=len)
  ·rw[if_pos hc]
   exact⟨0,by simp,rfl,by omega,by simpa[esize]using hn hc.1,by simpa[esize]using hc.2⟩
  ·rw[if_neg hc]
   have hr:r≠ []:=fun e=>by
    subst e
    simp only[List.length_cons,List.length_nil]at hl h2
    exact hc ⟨by omega,by omega⟩
   have hxs:=hx x List.mem_cons_self
   have hn2:2*(n+esz x)<all+2*58:=by
    by_cases hi:0<i
    ·have:¬all<=2*n:=fun h=>hc ⟨hi, .inl h⟩
     omega
    ·have:=h0 (by omega)
     subst this
     omega
   obtain⟨j,g1,g2,g3,g4,g5⟩:=half_spec all len hall r (i+1) (n+esz x) (by simp only[List.length_cons]at hl;omega) hr (.inl (by omega)) (fun _=>hn2) (by omega) (fun y hy=>hx y (List.mem_cons_of_mem _ hy))
   refine⟨j+1,by simpa using g1,by rw[g2];omega,by omega, ?_, ?_⟩
   ·rw[List.take_succ_cons,esize_cons];omega
   ·rw[List.take_succ_cons,esize_cons]
    rcases g5 with h | h
    ·exact .inl (by omega)
    ·exact .inr (by omega)
theorem esz_may{x:En.Ent}(h:may x.1 x.2=true):esz x<=58:=by
 unfold may at h
 simp only[Bool.and_eq_true,decide_eq_true_eq]at h
 unfold esz;omega
theorem ksz_may{k:Str}(h:may k ⟨#[]⟩=true):6<=ksz k/\ksz k<=21:=by
 unfold may at h
 simp only[Bool.and_eq_true,decide_eq_true_eq]at h
 unfold ksz;omega
theorem right_sub{a l:List En.Ent}(h:En.right l=true)(hs:a.Sublist l):En.right a=true:=by
 obtain⟨h1,h2⟩:=(right_iff l).1 h
 exact(right_iff a).2 ⟨fun x hx=>h1 x (hs.subset hx),h2.sublist hs⟩
theorem mkLeaf_fits{l:List En.Ent}(h:En.right l=true)(hs:esize l<=240):fits (mkLeaf l)=true:=fits_iff.2 ⟨right_leaf.2 ⟨h,rfl,rfl⟩,hs⟩
structure GOp(g:List En.Ent->List En.Ent)(key:Str):Prop where
 right:∀l,En.right l=true->En.right (g l)=true
 loc:∀a l b,En.right (a++(l++b))=true->(∀x∈a,lt x.1 key=true)->(∀x∈b,lt key x.1=true)->g (a++(l++b))=a++(g l++b)
 inn:∀l x,x∈g l->x∈l\/x.1=key
 size:∀l,esize (g l)<=esize l+58
section
variable {room:Int}{disk:Disk}{used:List Run}{σ σ1 σ2:Pst}
theorem getD_kid{subs:List Sub}{i:Nat}(hi:i<subs.length):(subs.map (·.id)).getD i 0=(subs[i]).id:=by
 rw[List.getD_eq_getElem?_getD,List.getElem?_map,List.getElem?_eq_getElem hi];rfl
end
def RootAt(disk:Disk)(used:List Run)(σ:Pst)(root:Int)(es:List En.Ent)(tok:Nat)(ids:List Int):Prop:=
 (root=0/\es= []/\ids= [])\/∃h s,s.id=root/\s.ids=ids/\s.es=es/\s.tok<=tok/\Tr (σ.view disk) h none none s/\ids.Nodup/\(∀x∈ids,Use used σ x)/\(h=0\/2*6 ^ (h-1)<=s.tok)
theorem low_of{h t:Nat}(h1:h=0\/2*6 ^ (h-1)<=t)(h2:t<=1000000):h<=8:=by
 by_cases hh:h<=8
 ·exact hh
 ·rcases h1 with h1 | h1
  ·omega
  ·have:6 ^ 8<=6 ^ (h-1):=Nat.pow_le_pow_right (by decide) (by omega)
   have e:(6:Nat) ^ 8=1679616:=by decide
   omega
def gPut(k v:Str)(l:List En.Ent):List En.Ent:=if En.right l&&En.may k v then En.put l k v else l
def gDel(k:Str)(l:List En.Ent):List En.Ent:=if En.right l then En.del l k else l
theorem del_app(a b:List En.Ent)(k:Str):En.del (a++b) k=En.del a k++En.del b k:=by unfold En.del;rw[List.filter_append]
theorem del_none{a:List En.Ent}{k:Str}(h:∀x∈a,x.1≠k):En.del a k=a:=by
 unfold En.del
 rw[List.filter_eq_self]
 intro x hx
 rw[Bool.not_eq_true',eqs_false];exact h x hx
theorem ins_low{x:En.Ent} :∀ {a:List En.Ent} (l:List En.Ent),(∀y∈a,lt y.1 x.1=true)->En.ins x (a++l)=a++En.ins x l
 | [],_,_=>rfl
 |y::a,l,h=>by
  rw[List.cons_append,En.ins,if_neg (by rw[lt_not (h y List.mem_cons_self)];simp),ins_low l (fun z hz=>h z (List.mem_cons_of_mem _ hz))]
  rfl
theorem ins_high{x:En.Ent}{b:List En.Ent}(h:∀y∈b,lt x.1 y.1=true):∀ (l:List En.Ent),En.ins x (l++b)=En.ins x l++b
 | []=>by
  cases b with
  |nil=>rfl
  |cons y b=>rw[List.nil_append];show En.ins x (y::b)=x::y::b;rw[En.ins,if_pos (h y List.mem_cons_self)]
 |y::l=>by
  rw[List.cons_append,En.ins,En.ins]
  by_cases hc:lt x.1 y.1=true
  ·rw[if_pos hc,if_pos hc];rfl
  ·rw[if_neg hc,if_neg hc,ins_high h l];rfl
theorem esize_ins(x:En.Ent):∀l:List En.Ent,esize (En.ins x l)=esz x+esize l
 | []=>by rw[En.ins,esize_cons]
 |y::l=>by
  rw[En.ins]
  split
  ·rw[esize_cons]
  ·rw[esize_cons,esize_ins x l,esize_cons];omega
theorem esize_del(l:List En.Ent)(k:Str):esize (En.del l k)<=esize l:=by
 induction l with
 |nil=>exact Nat.le_refl _
 |cons x l ih=>
  unfold En.del at*
  rw[List.filter_cons]
  split
  ·rw[esize_cons,esize_cons];omega
  ·rw[esize_cons];omega
theorem sub_mid(a l b:List En.Ent):l.Sublist (a++(l++b)):=(List.sublist_append_left l b).trans (List.sublist_append_right a _)
theorem gPut_op{k v:Str}(hm:En.may k v=true):GOp (gPut k v) k where
 right:=fun l h=>by unfold gPut;rw[h,hm];exact right_put h hm
 loc:=fun a l b h ha hb=>by
  unfold gPut
  rw[h,hm,right_sub h (sub_mid a l b)]
  show En.put _ k v=a++(En.put l k v++b)
  unfold En.put
  rw[del_app,del_app,del_none (fun x hx=>lt_ne (ha x hx)),del_none (fun x hx=>(lt_ne (hb x hx)).symm),ins_low _ ha,ins_high hb]
 inn:=fun l x hx=>by
  unfold gPut at hx
  split at hx
  ·rcases mem_put.1 hx with rfl | h
   ·exact .inr rfl
   ·exact .inl h.1
  ·exact .inl hx
 size:=fun l=>by
  unfold gPut
  split
  ·unfold En.put
   rw[esize_ins]
   have:=esize_del l k
   have:=esz_may (x:=(k,v)) hm
   omega
  ·omega
theorem gDel_op(k:Str):GOp (gDel k) k where
 right:=fun l h=>by unfold gDel;rw[h];exact right_del h
 loc:=fun a l b h ha hb=>by
  unfold gDel
  rw[h,right_sub h (sub_mid a l b)]
  show En.del _ k=a++(En.del l k++b)
  rw[del_app,del_app,del_none (fun x hx=>lt_ne (ha x hx)),del_none (fun x hx=>(lt_ne (hb x hx)).symm)]
 inn:=fun l x hx=>by
  unfold gDel at hx
  split at hx
  ·exact .inl (mem_del.1 hx).1
  ·exact .inl hx
 size:=fun l=>by
  unfold gDel
  split
  ·have:=esize_del l k;omega
  ·omega
theorem get_mid{a l b:List En.Ent}{k:Str}(ha:∀x∈a,lt x.1 k=true)(hb:∀x∈b,lt k x.1=true):En.get (a++(l++b)) k=En.get l k:=by
 have h1:∀ (c:List En.Ent),(∀x∈c,x.1≠k)->c.find? (fun x=>eqs x.1 k)=none:=fun c hc=>by
  rw[List.find?_eq_none]
  intro x hx
  rw[eqs_no (hc x hx)];simp
 unfold En.get
 rw[List.find?_append,h1 a (fun x hx=>lt_ne (ha x hx)),List.find?_append,h1 b (fun x hx=>(lt_ne (hb x hx)).symm)]
 cases l.find? (fun x=>eqs x.1 k)<;>rfl
section
variable {disk:Disk}{σ:Pst}
theorem find_tr{key:Str} :∀ (h f:Nat) (lo hi:Option Str) (s:Sub),h<f->Tr (σ.view disk) h lo hi s->s.id≠0->gtLo lo key->ltHi hi key->pFind disk σ key f s.id= .ok (En.get s.es key)
 |0,f+1,lo,hi,s,_,ht,h0,_,_=>by
  rw[pFind,if_neg h0,ht.1]
  simp only
  rw[if_pos (show(mkLeaf s.es).leaf=true from rfl)]
  rfl
 |h+1,f+1,lo,hi,s,hf,ht,h0,hk1,hk2=>by
  have G:=tr_good (σ.view disk) h
  obtain⟨subs,keys,a1,a2,a3,a4,a5,a6,a7⟩:=ht
  obtain⟨hrt,hsz⟩:=fits_iff.1 a2
  obtain⟨_,r2,r3,r4⟩:=right_inner.1 hrt
  have hlen:=chain_len a7
  have hci:=child_le keys key
  obtain⟨i,hi0⟩:∃i,i=child keys key:=⟨_,rfl⟩
  have hi':i<subs.length:=by omega
  rw[pFind,if_neg h0,a1]
  simp only
  rw[if_neg (show ¬ (mkInner (subs.map (·.id)) keys).leaf=true by simp[mkInner])]
  rw[show(mkInner (subs.map (·.id)) keys).keys=keys from rfl, <-hi0,show(mkInner (subs.map (·.id)) keys).kids=subs.map (·.id)from rfl,getD_kid hi']
  obtain⟨l,hh,ti,c1,c2,hrep,hloc,hcb⟩:=chain_at G a7 hi'
  obtain⟨kl,kh⟩:=hcb key hi0.symm hk1 hk2
  have hid:2<=(subs[i]).id:=(r3 _ (List.mem_map.2 ⟨subs[i],List.getElem_mem hi',rfl⟩)).1
  rw[find_tr h f l hh subs[i] (by omega) ti (by omega) kl kh]
  have hsp:subs=subs.take i++(subs[i]::subs.drop (i+1)):=by rw[<-List.drop_eq_getElem_cons,List.take_append_drop]
  have hesl:es_ subs=es_ (subs.take i)++((subs[i]).es++es_ (subs.drop (i+1))):=by
   conv=>lhs;rw[hsp]
   rw[es_append,es_cons]
  rw[a4,hesl,get_mid (hloc key kl kh).1 (hloc key kl kh).2]
end
def from_(l:List En.Ent)(frm:Str):List En.Ent:=l.drop (place l frm)
theorem from_cons(x:En.Ent)(l:List En.Ent)(frm:Str):from_ (x::l) frm=if lt x.1 frm then from_ l frm else x::l:=by
 unfold from_ place
 rw[List.takeWhile_cons]
 by_cases h:lt x.1 frm=true
 ·rw[if_pos h,if_pos h];rfl
 ·rw[if_neg h,if_neg h];rfl
theorem from_low{a:List En.Ent}{frm:Str}(b:List En.Ent)(h:∀x∈a,lt x.1 frm=true):from_ (a++b) frm=from_ b frm:=by
 induction a with
 |nil=>rfl
 |cons x a ih=>rw[List.cons_append,from_cons,if_pos (h x List.mem_cons_self),ih fun y hy=>h y (List.mem_cons_of_mem _ hy)]
theorem from_all{b:List En.Ent}{frm:Str}(h:∀x∈b,lt x.1 frm=false):from_ b frm=b:=by
 cases b with
 |nil=>rfl
 |cons x b=>rw[from_cons,if_neg (by rw[h x List.mem_cons_self];simp)]
theorem from_high{a b:List En.Ent}{frm:Str}(h:∀x∈b,lt x.1 frm=false):from_ (a++b) frm=from_ a frm++b:=by
 induction a with
 |nil=>rw[List.nil_append,from_all h];rfl
 |cons x a ih=>
  rw[List.cons_append,from_cons,from_cons]
  split
  ·exact ih
  ·rfl
theorem chain_from{P:SubP}{hi:Option Str}{frm:Str}(G:Good P):∀ {subs:List Sub} {keys:List Str} {lo:Option Str},Chain P lo hi subs keys->∃ (h:child keys frm<subs.length),from_ (es_ subs) frm=from_ (subs[child keys frm]).es frm++es_ (subs.drop (child keys frm+1))/\∀t∈subs.drop (child keys frm+1),∀x∈t.es,lt x.1 frm=false
 | [s], [],lo,h=>⟨by simp[child],by simp[child,es_],by simp[child]⟩
 |s::rest,k::ks,lo,h=>by
  obtain⟨p,q⟩:=chain_cons.1 h
  obtain⟨_,r2,_,_,_⟩:=chain_range G q
  by_cases hc:lt frm k=true
  ·have e:child (k::ks) frm=0:=by unfold child;rw[if_pos hc]
   rw[e]
   have hx:∀x∈es_ rest,lt x.1 frm=false:=fun x hx=>lt_not (lt_of_lt_ge hc (gtLo_some.1 (r2 x hx).1))
   refine⟨by simp, ?_,fun t ht x hxt=>hx x ?_⟩
   ·rw[es_cons,from_high hx]
    simp
   ·unfold es_;rw[List.mem_flatMap];exact⟨t,by simpa using ht,hxt⟩
  ·have e:child (k::ks) frm=child ks frm+1:=by rw[child];rw[if_neg hc]
   rw[e]
   obtain⟨i1,i2,i3⟩:=chain_from G q (frm:=frm)
   refine⟨by simpa using i1, ?_, ?_⟩
   ·rw[es_cons,from_low _ (fun x hx=> ?_),i2]
    ·simp
    ·exact lt_of_lt_ge (ltHi_some.1 ((G.inn p x hx).2)) (by simpa using hc)
   ·simpa using i3
def ystep{S:Type}(y:S->En.Ent->S × Bool):S->List En.Ent->S × Bool
 |s, []=>(s,true)
 |s,x::l=>if(y s x).2 then ystep y (y s x).1 l else((y s x).1,false)
theorem ystep_app{S:Type}{y:S->En.Ent->S × Bool} :∀ (a b:List En.Ent) (s:S),ystep y s (a++b)=if(ystep y s a).2 then ystep y (ystep y s a).1 b else ystep y s a
 | [],b,s=>by simp[ystep]
 |x::a,b,s=>by
  rw[List.cons_append,ystep,ystep]
  by_cases h:(y s x).2=true
  ·rw[if_pos h,if_pos h,ystep_app a b]
  ·rw[if_neg h,if_neg h];simp
theorem goKids_y{S:Type}{y:S->En.Ent->S × Bool}{vis:Int->S->S × Except Int Bool}{part:Sub->List En.Ent} :∀ (l:List Sub) (s:S),(∀t∈l,∀s,vis t.id s=((ystep y s (part t)).1, .ok (ystep y s (part t)).2))->goKids vis (l.map (·.id)) s=((ystep y s (l.flatMap part)).1, .ok (ystep y s (l.flatMap part)).2)
 | [],s,_=>rfl
 |t::l,s,h=>by
  rw[List.map_cons,goKids,h t List.mem_cons_self,List.flatMap_cons,ystep_app]
  cases hb:(ystep y s (part t)).2 with
  |true=>simp only[if_true];exact goKids_y l _ (fun u hu=>h u (List.mem_cons_of_mem _ hu))
  |false=>simp[hb]
theorem visit_tr{S:Type}{disk:Disk}{σ:Pst}{frm:Str}(y:S->En.Ent->S × Bool):∀ (h f:Nat) (lo hi:Option Str) (s:Sub) (st:S),h<f->Tr (σ.view disk) h lo hi s->
  pVisit disk σ frm (ystep y) f s.id st=((ystep y st (from_ s.es frm)).1, .ok (ystep y st (from_ s.es frm)).2)
 |0,f+1,lo,hi,s,st,_,ht=>by
  rw[pVisit,ht.1]
  simp only
  rw[if_pos (show(mkLeaf s.es).leaf=true from rfl)]
  rfl
 |h+1,f+1,lo,hi,s,st,hf,ht=>by
  have G:=tr_good (σ.view disk) h
  obtain⟨subs,keys,a1,a2,a3,a4,a5,a6,a7⟩:=ht
  obtain⟨i1,i2,i3⟩:=chain_from G a7 (frm:=frm)
  rw[pVisit,a1]
  simp only
  rw[if_neg (show ¬ (mkInner (subs.map (·.id)) keys).leaf=true by simp[mkInner])]
  show goKids _ ((subs.map (·.id)).drop (child keys frm)) st=_
  have e:(subs.map (·.id)).drop (child keys frm)=(subs.drop (child keys frm)).map (·.id):=by rw[List.map_drop]
  rw[e,goKids_y (y:=y) (part:=fun t=>from_ t.es frm) _ _ (fun t ht s=> ?_)]
  ·have e2:(subs.drop (child keys frm)).flatMap (fun t=>from_ t.es frm)=from_ s.es frm:=by
    rw[a4,i2,List.drop_eq_getElem_cons i1,List.flatMap_cons]
    congr 1
    unfold es_
    generalize subs.drop (child keys frm+1)=l at*
    clear i2 e
    induction l with
    |nil=>rfl
    |cons t l ih=>rw[List.flatMap_cons,List.flatMap_cons,from_all (i3 t List.mem_cons_self),ih fun u hu=>i3 u (List.mem_cons_of_mem _ hu)]
   rw[e2]
  ·obtain⟨l,hh,hp⟩:=chain_all a7 t (List.mem_of_mem_drop ht)
   exact visit_tr y h f l hh t s (by omega) hp
def pgL(v:Int->Option Node):Nat->Nat->Int->List (Int × Nat × Node)
 |0,d,id=>match v id with
  |none=> []
  |some n=> [(id,d,n)]
 |h+1,d,id=>match v id with
  |none=> []
  |some n=>(id,d,n)::n.kids.flatMap (pgL v h (d+1))
theorem pgL_leaf{v:Int->Option Node}{d:Nat}{lo hi:Option Str}{s:Sub}(hs:Tr v 0 lo hi s):pgL v 0 d s.id= [(s.id,d,mkLeaf s.es)]:=by rw[pgL,hs.1]
theorem pgL_inner{v:Int->Option Node}{h d:Nat}{id:Int}{subs:List Sub}{keys:List Str}(hv:v id=some (mkInner (subs.map (·.id)) keys)):pgL v (h+1) d id=(id,d,mkInner (subs.map (·.id)) keys)::subs.flatMap (fun t=>pgL v h (d+1) t.id):=by
 rw[pgL,hv]
 simp only[mkInner]
 rw[List.flatMap_map]
theorem walk_kids{wk:List (Int × Nat × Node)->Int->List (Int × Nat × Node) × Int}{p:Sub->List (Int × Nat × Node)} :∀ (subs:List Sub) (l:List (Int × Nat × Node)),(∀t∈subs,∀l,wk l t.id=(l++p t,0))->pWalkKids wk (subs.map (·.id)) l=(l++subs.flatMap p,0)
 | [],l,_=>by simp[pWalkKids]
 |t::r,l,h=>by
  rw[List.map_cons,pWalkKids,h t List.mem_cons_self]
  simp only
  rw[walk_kids r _ (fun u hu=>h u (List.mem_cons_of_mem _ hu)),List.flatMap_cons,List.append_assoc]
theorem flat_congr{β:Type}{f g:Sub->List β} :∀ (l:List Sub),(∀t∈l,f t=g t)->l.flatMap f=l.flatMap g
 | [],_=>rfl
 |t::l,h=>by rw[List.flatMap_cons,List.flatMap_cons,h t List.mem_cons_self,flat_congr l fun u hu=>h u (List.mem_cons_of_mem _ hu)]
section
variable {disk:Disk}{σ:Pst}{v:Int->Option Node}
theorem walk_tr:∀ (h f:Nat) (lo hi:Option Str) (s:Sub) (l:List (Int × Nat × Node)),h<f->f<=24->Tr (σ.view disk) h lo hi s->pWalk disk σ f l s.id=(l++pgL (σ.view disk) h (24-f) s.id,0)
 |0,f+1,lo,hi,s,l,_,_,hs=>by
  rw[pWalk,pgL_leaf hs,hs.1]
  rfl
 |h+1,f+1,lo,hi,s,l,hf,hf2,hs=>by
  obtain⟨subs,keys,a1,a2,a3,a4,a5,a6,a7⟩:=hs
  rw[pgL_inner a1,pWalk,a1]
  show pWalkKids (pWalk disk σ f) (subs.map (·.id)) _=_
  rw[walk_kids (p:=fun t=>pgL (σ.view disk) h (24-f) t.id) subs _ (fun t ht l=>by
   obtain⟨l',h',hp⟩:=chain_all a7 t ht
   exact walk_tr h f l' h' t l (by omega) (by omega) hp)]
  rw[show 24-(f+1)+1=24-f by omega,List.append_assoc]
  rfl
theorem pgL_ids:∀ (h d:Nat) (lo hi:Option Str) (s:Sub),Tr v h lo hi s->(pgL v h d s.id).map (·.1)=s.ids
 |0,d,lo,hi,s,hs=>by rw[pgL_leaf hs,hs.2.1];rfl
 |h+1,d,lo,hi,s,hs=>by
  obtain⟨subs,keys,a1,a2,a3,a4,a5,a6,a7⟩:=hs
  rw[pgL_inner a1,List.map_cons,List.map_flatMap,a3]
  unfold ids_
  rw[flat_congr subs fun t ht=>by
   obtain⟨l',h',hp⟩:=chain_all a7 t ht
   exact pgL_ids h (d+1) l' h' t hp]
theorem pgL_len{h d:Nat}{lo hi:Option Str}{s:Sub}(hs:Tr v h lo hi s):(pgL v h d s.id).length=s.ids.length:=by
 rw[<-pgL_ids h d lo hi s hs,List.length_map]
theorem flat_len{β:Type}{f:Sub->List β}{g:Sub->Nat} :∀ (l:List Sub),(∀t∈l,(f t).length<=g t)->(l.flatMap f).length<=(l.map g).sum
 | [],_=>Nat.le_refl _
 |t::l,h=>by
  rw[List.flatMap_cons,List.length_append,List.map_cons,List.sum_cons]
  have h1:=h t List.mem_cons_self
  have h2:=flat_len l fun u hu=>h u (List.mem_cons_of_mem _ hu)
  omega
theorem es_len(l:List Sub):(es_ l).length=(l.map fun t=>t.es.length).sum:=by
 unfold es_;rw[List.length_flatMap]
theorem sum_mul(l:List Sub)(k:Nat):(l.map fun t=>k*t.es.length).sum=k*(es_ l).length:=by
 rw[es_len]
 induction l with
 |nil=>rfl
 |cons t l ih=>rw[List.map_cons,List.sum_cons,ih,List.map_cons,List.sum_cons,Nat.mul_add]
theorem kids_le_es{h:Nat}(ih:∀lo hi s,Tr v h lo hi s->s.ids.length<=(h+1)*s.es.length){lo hi:Option Str}{subs:List Sub}{keys:List Str}(hch:Chain (Tr v h) lo hi subs keys):(ids_ subs).length<=(h+1)*(es_ subs).length:=by
 rw[<-sum_mul]
 unfold ids_
 exact flat_len subs fun t ht=>by
  obtain⟨l',h',hp⟩:=chain_all hch t ht
  exact ih l' h' t hp
theorem ids_le_es:∀ (h:Nat) (lo hi:Option Str) (s:Sub),Tr v h lo hi s->s.ids.length<=(h+1)*s.es.length
 |0,lo,hi,s,hs=>by
  have:=List.length_pos_iff.2 hs.2.2.2.1
  rw[hs.2.1,List.length_singleton];omega
 |h+1,lo,hi,s,hs=>by
  have hne:=List.length_pos_iff.2 ((tr_good v (h+1)).ne hs)
  obtain⟨subs,keys,a1,a2,a3,a4,a5,a6,a7⟩:=hs
  have:=kids_le_es (ids_le_es h) a7
  rw[a3,List.length_cons,Nat.succ_mul,a4]
  rw[a4]at hne
  omega
theorem es_le_tok:∀ (h:Nat) (lo hi:Option Str) (s:Sub),Tr v h lo hi s->s.es.length<=s.tok
 |0,lo,hi,s,hs=>hs.2.2.2.2.2
 |h+1,lo,hi,s,hs=>by
  obtain⟨subs,keys,a1,a2,a3,a4,a5,a6,a7⟩:=hs
  rw[a4,es_len]
  refine Nat.le_trans ?_ a5
  unfold toks
  have key:∀l:List Sub,(∀t∈l,t.es.length<=t.tok)->(l.map fun t=>t.es.length).sum<=(l.map (·.tok)).sum:=fun l=>by
   induction l with
   |nil=>intro _;exact Nat.le_refl _
   |cons t l ih=>
    intro hl
    rw[List.map_cons,List.sum_cons,List.map_cons,List.sum_cons]
    have h1:=hl t List.mem_cons_self
    have h2:=ih fun u hu=>hl u (List.mem_cons_of_mem _ hu)
    omega
  exact key subs fun t ht=>by
   obtain⟨l',h',hp⟩:=chain_all a7 t ht
   exact es_le_tok h l' h' t hp
def lev:Nat->Nat->Nat
 |0,t=>t
 |h+1,t=>t / 6 ^ (h+1)+lev h t
theorem div_add_le(a b m:Nat):a / m+b / m<=(a+b) / m:=by
 rcases Nat.eq_zero_or_pos m with rfl | hm
 ·simp
 ·rw[Nat.le_div_iff_mul_le hm,Nat.add_mul]
  have h1:=Nat.div_mul_le_self a m
  have h2:=Nat.div_mul_le_self b m
  omega
theorem lev_add:∀ (h a b:Nat),lev h a+lev h b<=lev h (a+b)
 |0,a,b=>Nat.le_refl _
 |h+1,a,b=>by
  have h1:=lev_add h a b
  have h2:=div_add_le a b (6 ^ (h+1))
  simp only[lev]
  omega
theorem lev_mono:∀ (h:Nat) {a b:Nat},a<=b->lev h a<=lev h b
 |0,_,_,hab=>hab
 |h+1,a,b,hab=>by
  have h1:=lev_mono h hab
  have h2:=Nat.div_le_div_right (c:=6 ^ (h+1)) hab
  simp only[lev]
  omega
theorem lev_sum(h:Nat):∀l:List Sub,(l.map fun t=>lev h t.tok).sum<=lev h (toks l)
 | []=>Nat.zero_le _
 |t::l=>by
  rw[List.map_cons,List.sum_cons,toks_cons]
  have h1:=lev_sum h l
  have h2:=lev_add h t.tok (toks l)
  omega
theorem lev_le:∀ (h t:Nat),5*lev h t+t / 6 ^ h<=6*t
 |0,t=>by simp[lev];omega
 |h+1,t=>by
  have h1:=lev_le h t
  have h2:t / 6 ^ (h+1)=t / 6 ^ h / 6:=by rw[Nat.pow_succ,Nat.div_div_eq_div_mul]
  simp only[lev]
  omega
theorem kids_lev{h:Nat}(ih:∀lo hi s,6 ^ h<=s.tok->Tr v h lo hi s->s.ids.length<=lev h s.tok){lo hi:Option Str}{subs:List Sub}{keys:List Str}(h6:∀t∈subs,6 ^ h<=t.tok)(hch:Chain (Tr v h) lo hi subs keys):(ids_ subs).length<=lev h (toks subs):=by
 refine Nat.le_trans ?_ (lev_sum h subs)
 unfold ids_
 exact flat_len subs fun t ht=>by
  obtain⟨l',h',hp⟩:=chain_all hch t ht
  exact ih l' h' t (h6 t ht) hp
theorem ids_lev:∀ (h:Nat) (lo hi:Option Str) (s:Sub),6 ^ h<=s.tok->Tr v h lo hi s->s.ids.length<=lev h s.tok
 |0,lo,hi,s,h6,hs=>by rw[hs.2.1];exact h6
 |h+1,lo,hi,s,h6,hs=>by
  obtain⟨subs,keys,a1,a2,a3,a4,a5,a6,a7⟩:=hs
  have h1:=kids_lev (ids_lev h) a6 a7
  have h2:=lev_mono h a5
  have h3:0<s.tok / 6 ^ (h+1):=Nat.div_pos h6 (Nat.pow_pos (by decide))
  rw[a3,List.length_cons]
  simp only[lev]
  omega
theorem root_lev{h:Nat}{lo hi:Option Str}{s:Sub}(hs:Tr v h lo hi s):5*s.ids.length<=6*s.tok+5:=by
 cases h with
 |zero=>rw[hs.2.1];simp
 |succ h=>
  obtain⟨subs,keys,a1,a2,a3,a4,a5,a6,a7⟩:=hs
  have h1:=kids_lev (ids_lev h) a6 a7
  have h2:=Nat.le_trans (Nat.le_add_right _ _) (lev_le h (toks subs))
  rw[a3,List.length_cons]
  omega
end
section
variable {room:Int}{disk:Disk}{used:List Run}{σ:Pst}{root:Int}{es:List En.Ent}{tok:Nat}{ids:List Int}
theorem RootAt.few(h:RootAt disk used σ root es tok ids):5*ids.length<=6*tok+5:=by
 rcases h with⟨rfl,rfl,rfl⟩ | ⟨h,s,rfl,rfl,rfl,q4,q5,q6,q7,q8⟩
 ·simp
 ·have:=root_lev q5;omega
theorem RootAt.right(h:RootAt disk used σ root es tok ids):En.right es=true:=by
 rcases h with⟨rfl,rfl,rfl⟩ | ⟨h,s,rfl,rfl,rfl,q4,q5,q6,q7,q8⟩
 ·rfl
 ·exact(tr_good _ _).srt q5
theorem RootAt.len(h:RootAt disk used σ root es tok ids):es.length<=tok:=by
 rcases h with⟨rfl,rfl,rfl⟩ | ⟨h,s,rfl,rfl,rfl,q4,q5,q6,q7,q8⟩
 ·simp
 ·have:=es_le_tok _ _ _ _ q5;omega
theorem grow_leaf{l:List En.Ent}{pg:Int}(hv:σ.view disk pg=some (mkLeaf l)):pGrow room disk 2 σ ([pg], [])=(.ok pg,σ):=by
 rw[pGrow,if_neg (by simp)]
 simp only
 rw[pShrink,hv]
 simp[mkLeaf]
theorem update_small{g:List En.Ent->List En.Ent}{key:Str}(hap:ApS room used σ)(hr:RootAt disk used σ root es tok ids)(h1:ids.length<=1)(hne:g es≠ [])(hf:fits (mkLeaf (g es))=true)(δ:Nat)(hd:(g es).length<=es.length+δ):
  Res room disk used σ (fun x=>x∈ids) 1 (pUpdate room disk g key σ root) (fun root' σ' ids'=>RootAt disk used σ' root' (g es) (tok+δ) ids'/\ids'.length<=1):=by
 have hl:=hr.len
 have hne2:(mkLeaf (g es)).ents.length+(mkLeaf (g es)).kids.length≠0:=by
  have:=List.length_pos_iff.2 hne
  show(g es).length+0≠0
  omega
 have hgo:∃id,pFirst room disk g key σ root=pStore room (fuelOf (mkLeaf (g es))) σ id (mkLeaf (g es))/\(ids= [id]\/(ids= []/\id=0)):=by
  rcases hr with⟨rfl,rfl,rfl⟩ | ⟨h,s,rfl,rfl,rfl,q4,q5,q6,q7,q8⟩
  ·exact⟨0,by unfold pFirst;rw[if_pos rfl], .inr ⟨rfl,rfl⟩⟩
  ·have hz:s.id≠0:=fun e=>by
    have:=use_range hap (q7 s.id (tr_id q5))
    omega
   cases h with
   |zero=>
    refine⟨s.id, ?_, .inl q5.2.1⟩
    unfold pFirst
    rw[if_neg hz,pChange,q5.1]
    rfl
   |succ h=>
    exfalso
    obtain⟨subs,keys,a1,a2,a3,a4,a5,a6,a7⟩:=q5
    rw[a3,List.length_cons]at h1
    obtain⟨t,ht⟩:∃t,t∈subs:=List.exists_mem_of_ne_nil _ (chain_ne a7)
    obtain⟨l',h',hp⟩:=chain_all a7 t ht
    have:=List.length_pos_of_mem (mem_ids ht (tr_id hp))
    omega
 obtain⟨id,e0,hid⟩:=hgo
 have hst:=store_one (disk:=disk) hap ((g es).length+0) id hne2 hf
 unfold pUpdate
 rw[e0,show fuelOf (mkLeaf (g es))=(g es).length+0+1 from rfl]
 generalize pStore room ((g es).length+0+1) σ id (mkLeaf (g es))=r at*
 obtain⟨r,σ1⟩:=r
 rcases hst with⟨p,ids1,e1,s1,n1,l1,pg,rfl,rfl,v1⟩ | ⟨e1,s1,l1⟩
 ·simp only at e1 s1 l1 v1
  subst e1
  simp only
  have hs2:Step room disk used σ (fun x=>x∈ids) σ1 (fun x=>x∈ [pg]):=by
   rcases hid with rfl | ⟨rfl,rfl⟩
   ·exact s1.congr (fun x=>by simp) (fun _=>Iff.rfl)
   ·exact s1.shrink (fun x hx _ hu=>no_zero hap (by omega) hu) (fun x hx=>by simp at hx)
  rw[show([pg]:List Int).length+1=2 from rfl,grow_leaf v1]
  exact .inl ⟨pg, [pg],rfl,hs2,n1,l1, .inr ⟨0,⟨pg, [pg],g es,tok+δ⟩,rfl,rfl,rfl,Nat.le_refl _,⟨v1,rfl,hf,hne,fun x _=>⟨(fun a h=>by cases h),(fun a h=>by cases h)⟩,by show(g es).length<=tok+δ;omega⟩,n1,fun x hx=>s1.got hx, .inl rfl⟩,Nat.le_refl _⟩
 ·simp only at e1 s1 l1
  subst e1
  exact .inr ⟨rfl,s1,l1⟩
end
variable {disk disk':Disk}{root:Int}{es:List En.Ent}{tok tok':Nat}{ids:List Int}{used:List Run}{σ:Pst}{room:Int}
def start(l:List Run)(p:Int):Pst:=⟨Rp.meet l [(2,p-1)],p, [],fun _=>none⟩
end Tp
namespace En
def turn(d:Dl):Dl:=⟨d.key,d.new,d.old,d.is,d.was⟩
end En
namespace Td
open Nd En Tp
structure It where
 pg:Int
 d:Nat
 key:Str
 val:Str
def x2(x:It):Ent:=(x.key,x.val)
def ItAt(v:Int->Option Node)(x:It)(l:List Ent)(m:Nat):Prop:=
 (x.pg=0/\l= [x2 x]/\m=1)\/∃h s hi,x.pg=s.id/\0<x.pg/\Tr v h (some x.key) hi s/\(∀i∈s.ids,0<i)/\x.d+h<24/\l=s.es/\m=s.ids.length+s.es.length
def Sd(v:Int->Option Node):List It->List Ent->Nat->Prop
 | [],L,m=>L= []/\m=0
 |x::a,L,m=>∃l L' k m',L=l++L'/\m=k+m'/\ItAt v x l k/\Sd v a L' m'
end Td
namespace Go.Proofs.YtjoiajmbfbjnnaaGreatDoor
open Go.RowKit
abbrev It:=Td.It
theorem sized_any(n:Int)(w:World):Calls Tryz.prog 142 #[.int .i64 n] w fun e w'=>e= .returned (.bool (n==1||n==2||n==4))/\w=w':=by
 go_enter Tryz.func142,Tryz.ntmps142
 go_wp2
 all_goals go_ret
 all_goals simp[*]
theorem sized_yes(n:Int)(h:n=1\/n=2\/n=4)(w:World):Calls Tryz.prog 142 #[.int .i64 n] w fun e w'=>e= .returned (.bool true)/\w=w':=by
 refine(sized_any n w).mono fun e w' ⟨he,hw⟩=>⟨?_,hw⟩
 rw[he];rcases h with rfl | rfl | rfl<;>rfl
theorem eiByte:EI Tryz.prog 5 (.int .u8 0) 1 1:=EI.mk (by kernel_rfl)
theorem enc_step(k n j:Nat)(x:Int)(hj:j<k)(hx:x=((n / 256 ^ (k-1-j) % 256:Nat):Int)):((Cp.be k n).take j).map encB++ [Value.int .u8 x]=((Cp.be k n).take (j+1)).map encB:=by
 rw[Cp.be_take_succ k n j hj,List.map_append,List.map_singleton,encB_ofNat,hx,Nat.mod_mod]
theorem put1_fits(n:Int)(w:World)(h0:0<=n)(h1:n<256):Calls Tryz.prog 74 #[.int .i64 1, .int .i64 n] w fun e w'=>e= .returned (.tuple #[.string ⟨(Cp.be 1 n.toNat).toArray⟩, .int .i64 0])/\Below w.heap.size w w':=by
 have h2:n / 256=0:=by omega
 go_enter Tryz.func74,Tryz.ntmps74
 go_wp2_with (go_at_call 142;refine(sized_yes _ (by omega) _).mono ?_;rintro e w' ⟨rfl,rfl⟩)
 go_loopw [6,7] (fun v i wr=>∃j:Nat,j<=1/\i= .int .i64 (0-j:Int)/\wr.ownsRow w.heap.size 5 1 v j (((Cp.be 1 n.toNat).take j).map encB)/\Below w.heap.size w wr) (fun _ i _=>(intOf i+1).toNat)
 case atStart=>exact⟨0,by omega,rfl,World.ownsRow_nil _ _ _ _,Below.refl _ _⟩
 case round=>
  obtain⟨j,hj,rfl,hown,hb⟩:=hrel
  rcases(show j=0\/j=1 by omega)with rfl | rfl
  ·go_wp2_with (at_builtin;refine wpList_app1 rfl _ _ 217 rfl eiByte Tryz.underlying217 rfl (by decide) rfl hown rfl (by simp) rfl (by simp[Value.oneCell']) (by decide) (by decide) hb.size ?_;intro v' w1 hown' hgrow hbel _ _)
   go_roundw
   case rel=>exact⟨1,by omega,by go_num,by rw[<-enc_step 1 n.toNat 0 (n) (by omega) (by simp;omega)];exact hown',hb.trans (hbel.mono (Nat.le_refl _))⟩
   case measure=>simp[intOf]
  ·rw[List.take_of_length_le (by rw[Cp.be_length];omega)]at hown
   have hst:=str_of_own (P:=Tryz.prog) Tryz.underlying217 Tryz.underlying5 Tryz.underlying9 hown
   clear hown
   go_wp2
   go_ret2
   exact⟨rfl,hb⟩
theorem put2_fits(n:Int)(w:World)(h0:0<=n)(h1:n<65536):Calls Tryz.prog 74 #[.int .i64 2, .int .i64 n] w fun e w'=>e= .returned (.tuple #[.string ⟨(Cp.be 2 n.toNat).toArray⟩, .int .i64 0])/\Below w.heap.size w w':=by
 have h2:n / 65536=0:=by omega
 go_enter Tryz.func74,Tryz.ntmps74
 go_wp2_with (go_at_call 142;refine(sized_yes _ (by omega) _).mono ?_;rintro e w' ⟨rfl,rfl⟩)
 go_loopw [6,7] (fun v i wr=>∃j:Nat,j<=2/\i= .int .i64 (1-j:Int)/\wr.ownsRow w.heap.size 5 1 v j (((Cp.be 2 n.toNat).take j).map encB)/\Below w.heap.size w wr) (fun _ i _=>(intOf i+1).toNat)
 case atStart=>exact⟨0,by omega,rfl,World.ownsRow_nil _ _ _ _,Below.refl _ _⟩
 case round=>
  obtain⟨j,hj,rfl,hown,hb⟩:=hrel
  rcases(show j=0\/j=1\/j=2 by omega)with rfl | rfl | rfl
  ·go_wp2_with (at_builtin;refine wpList_app1 rfl _ _ 217 rfl eiByte Tryz.underlying217 rfl (by decide) rfl hown rfl (by simp) rfl (by simp[Value.oneCell']) (by decide) (by decide) hb.size ?_;intro v' w1 hown' hgrow hbel _ _)
   go_roundw
   case rel=>exact⟨1,by omega,by go_num,by rw[<-enc_step 2 n.toNat 0 (n / 256) (by omega) (by simp;omega)];exact hown',hb.trans (hbel.mono (Nat.le_refl _))⟩
   case measure=>simp[intOf]
  ·go_wp2_with (at_builtin;refine wpList_app1 rfl _ _ 217 rfl eiByte Tryz.underlying217 rfl (by decide) rfl hown rfl (by simp) rfl (by simp[Value.oneCell']) (by decide) (by decide) hb.size ?_;intro v' w1 hown' hgrow hbel _ _)
   go_roundw
   case rel=>exact⟨2,by omega,by go_num,by rw[<-enc_step 2 n.toNat 1 (n % 256) (by omega) (by simp;omega)];exact hown',hb.trans (hbel.mono (Nat.le_refl _))⟩
   case measure=>simp[intOf]
  ·rw[List.take_of_length_le (by rw[Cp.be_length];omega)]at hown
   have hst:=str_of_own (P:=Tryz.prog) Tryz.underlying217 Tryz.underlying5 Tryz.underlying9 hown
   clear hown
   go_wp2
   go_ret2
   exact⟨rfl,hb⟩
theorem put4_fits(n:Int)(w:World)(h0:0<=n)(h1:n<4294967296):Calls Tryz.prog 74 #[.int .i64 4, .int .i64 n] w fun e w'=>e= .returned (.tuple #[.string ⟨(Cp.be 4 n.toNat).toArray⟩, .int .i64 0])/\Below w.heap.size w w':=by
 have h2:n / 4294967296=0:=by omega
 go_enter Tryz.func74,Tryz.ntmps74
 go_wp2_with (go_at_call 142;refine(sized_yes _ (by omega) _).mono ?_;rintro e w' ⟨rfl,rfl⟩)
 go_loopw [6,7] (fun v i wr=>∃j:Nat,j<=4/\i= .int .i64 (3-j:Int)/\wr.ownsRow w.heap.size 5 1 v j (((Cp.be 4 n.toNat).take j).map encB)/\Below w.heap.size w wr) (fun _ i _=>(intOf i+1).toNat)
 case atStart=>exact⟨0,by omega,rfl,World.ownsRow_nil _ _ _ _,Below.refl _ _⟩
 case round=>
  obtain⟨j,hj,rfl,hown,hb⟩:=hrel
  rcases(show j=0\/j=1\/j=2\/j=3\/j=4 by omega)with rfl | rfl | rfl | rfl | rfl
  ·go_wp2_with (at_builtin;refine wpList_app1 rfl _ _ 217 rfl eiByte Tryz.underlying217 rfl (by decide) rfl hown rfl (by simp) rfl (by simp[Value.oneCell']) (by decide) (by decide) hb.size ?_;intro v' w1 hown' hgrow hbel _ _)
   go_roundw
   case rel=>exact⟨1,by omega,by go_num,by rw[<-enc_step 4 n.toNat 0 (n / 16777216) (by omega) (by simp;omega)];exact hown',hb.trans (hbel.mono (Nat.le_refl _))⟩
   case measure=>simp[intOf]
  ·go_wp2_with (at_builtin;refine wpList_app1 rfl _ _ 217 rfl eiByte Tryz.underlying217 rfl (by decide) rfl hown rfl (by simp) rfl (by simp[Value.oneCell']) (by decide) (by decide) hb.size ?_;intro v' w1 hown' hgrow hbel _ _)
   go_roundw
   case rel=>exact⟨2,by omega,by go_num,by rw[<-enc_step 4 n.toNat 1 (n / 65536 % 256) (by omega) (by simp;omega)];exact hown',hb.trans (hbel.mono (Nat.le_refl _))⟩
   case measure=>simp[intOf]
  ·go_wp2_with (at_builtin;refine wpList_app1 rfl _ _ 217 rfl eiByte Tryz.underlying217 rfl (by decide) rfl hown rfl (by simp) rfl (by simp[Value.oneCell']) (by decide) (by decide) hb.size ?_;intro v' w1 hown' hgrow hbel _ _)
   go_roundw
   case rel=>exact⟨3,by omega,by go_num,by rw[<-enc_step 4 n.toNat 2 (n / 256 % 256) (by omega) (by simp;omega)];exact hown',hb.trans (hbel.mono (Nat.le_refl _))⟩
   case measure=>simp[intOf]
  ·go_wp2_with (at_builtin;refine wpList_app1 rfl _ _ 217 rfl eiByte Tryz.underlying217 rfl (by decide) rfl hown rfl (by simp) rfl (by simp[Value.oneCell']) (by decide) (by decide) hb.size ?_;intro v' w1 hown' hgrow hbel _ _)
   go_roundw
   case rel=>exact⟨4,by omega,by go_num,by rw[<-enc_step 4 n.toNat 3 (n % 256) (by omega) (by simp;omega)];exact hown',hb.trans (hbel.mono (Nat.le_refl _))⟩
   case measure=>simp[intOf]
  ·rw[List.take_of_length_le (by rw[Cp.be_length];omega)]at hown
   have hst:=str_of_own (P:=Tryz.prog) Tryz.underlying217 Tryz.underlying5 Tryz.underlying9 hown
   clear hown
   go_wp2
   go_ret2
   exact⟨rfl,hb⟩
def rdCells(r:Cp.Rd):Array Value:= #[.string ⟨r.rest.toArray⟩, .int .i64 r.err]
theorem fail_any(g:Nat)(r:Cp.Rd)(x:Int)(w:World)(h:Blk w g 330 (rdCells r)):
  Calls Tryz.prog 238 #[.pointer (some ⟨g,0,none⟩), .int .i64 x] w fun e w'=>e= .returned (.tuple #[])/\Blk w' g 330 (rdCells (r.fail x))/\w.grownBy w' (some g):=by
 have h1:=h.cell 1
 have f1:=h.frozen 1
 simp only[rdCells]at h1
 by_cases hr:r.err=0
 ·rw[Cp.Rd.fail,if_pos hr]
  rw[hr]at h1
  have hb:=h.set_ 1 (.int .i64 x)
  have hg:w.grownBy (w.setCell ⟨g,1,none⟩ (.int .i64 x)) (some g):=only_setCell (p:=⟨g,1,none⟩) (World.grownBy.refl w (some g)) (.inl rfl) _
  clear h hr
  go_enter Tryz.func238,Tryz.ntmps238
  go_wp2
  go_end0
  exact⟨rfl,hb,hg⟩
 ·rw[Cp.Rd.fail,if_neg hr]
  have hr':(r.err==0)=false:=by simpa using hr
  clear hr
  go_enter Tryz.func238,Tryz.ntmps238
  go_wp2
  go_end0
  exact⟨rfl,h,World.grownBy.refl _ _⟩
theorem read_any(s:List UInt8)(w:World):Calls Tryz.prog 197 #[.string ⟨s.toArray⟩] w fun e w'=>e= .returned (.pointer (some ⟨w.heap.size,0,none⟩))/\w'=w.alloc (.cells (rdCells ⟨s,0⟩) 330):=by
 go_enter Tryz.func197,Tryz.ntmps197
 go_wp2
 go_ret
 exact⟨rfl,rfl⟩
theorem extract_take(l:List UInt8)(n:Nat):ByteArray.extract ⟨l.toArray⟩ 0 n=⟨(l.take n).toArray⟩:=by
 apply ByteArray.ext;simp
theorem extract_drop(l:List UInt8)(n:Nat):ByteArray.extract ⟨l.toArray⟩ n l.length=⟨(l.drop n).toArray⟩:=by
 apply ByteArray.ext;simp
 rw[List.take_of_length_le (by simp)]
theorem bytes_any(g:Nat)(r:Cp.Rd)(n:Int)(w:World)(h:Blk w g 330 (rdCells r)):
  Calls Tryz.prog 217 #[.pointer (some ⟨g,0,none⟩), .int .i64 n] w fun e w'=>e= .returned (.string ⟨(r.bytes n).1.toArray⟩)/\Blk w' g 330 (rdCells (r.bytes n).2)/\w.grownBy w' (some g):=by
 have h0:=h.cell 0
 have h1:=h.cell 1
 have f1:=h.frozen 0
 simp only[rdCells]at h0 h1
 by_cases hn:n<0
 ·have hb:r.bytes n=(if(r.fail 1).err=0 then((r.fail 1).rest.take n.toNat, { r.fail 1 with rest:=(r.fail 1).rest.drop n.toNat })else([],r.fail 1)):=by simp only[Cp.Rd.bytes,if_pos hn]
  have he:(r.fail 1).err≠0:=by unfold Cp.Rd.fail;split<;>simp_all
  rw[if_neg he]at hb
  rw[hb]
  have he':((r.fail 1).err==0)=false:=by simpa using he
  clear hb he
  generalize hr:r.fail 1=r' at*
  have HR:=Lib.hid hr
  clear hr
  go_enter Tryz.func217,Tryz.ntmps217
  go_wp2_with (go_at_call 238;refine(fail_any g r 1 w h).mono ?_;rintro e w' ⟨rfl,hB,hg⟩;rw[HR.out]at hB;have g1:=hB.cell 1;simp only[rdCells]at g1)
  go_ret
  exact⟨rfl,hB,hg⟩
 ·by_cases hm:(r.rest.length:Int)<n
  ·have hb:r.bytes n=(if(r.fail 10).err=0 then((r.fail 10).rest.take n.toNat, { r.fail 10 with rest:=(r.fail 10).rest.drop n.toNat })else([],r.fail 10)):=by simp only[Cp.Rd.bytes,if_neg hn,if_pos hm]
   have he:(r.fail 10).err≠0:=by unfold Cp.Rd.fail;split<;>simp_all
   rw[if_neg he]at hb
   rw[hb]
   have he':((r.fail 10).err==0)=false:=by simpa using he
   clear hb he
   generalize hr:r.fail 10=r' at*
   have HR:=Lib.hid hr
   clear hr
   go_enter Tryz.func217,Tryz.ntmps217
   go_wp2_with (go_at_call 238;refine(fail_any g r 10 w h).mono ?_;rintro e w' ⟨rfl,hB,hg⟩;rw[HR.out]at hB;have g1:=hB.cell 1;simp only[rdCells]at g1)
   go_ret
   exact⟨rfl,hB,hg⟩
  ·obtain⟨k,rfl⟩:=Int.eq_ofNat_of_zero_le (show 0<=n by omega)
   have hk:k<=r.rest.length:=by omega
   by_cases he:r.err=0
   ·rw[Cp.bytes_ok he hk]
    have hb:Blk (w.setCell ⟨g,0,none⟩ (.string ⟨(r.rest.drop k).toArray⟩)) g 330 (rdCells ⟨r.rest.drop k,0⟩):=by
     have:=h.set_ 0 (.string ⟨(r.rest.drop k).toArray⟩)
     simpa[rdCells,he]using this
    have hg:w.grownBy (w.setCell ⟨g,0,none⟩ (.string ⟨(r.rest.drop k).toArray⟩)) (some g):=only_setCell (p:=⟨g,0,none⟩) (World.grownBy.refl w (some g)) (.inl rfl) _
    rw[he]at h1
    have HB:=Lib.hid hb
    have HG:=Lib.hid hg
    clear hb hg h he
    go_enter Tryz.func217,Tryz.ntmps217
    go_wp2
    rw[extract_drop]
    go_ret
    exact⟨by rw[<-extract_take];rfl,HB.out,HG.out⟩
   ·have hb:r.bytes k=([],r):=by
     have e1:¬ ((k:Int)<0):=by omega
     simp only[Cp.Rd.bytes,if_neg e1,if_neg hm,if_neg he]
    rw[hb]
    have he':(r.err==0)=false:=by simpa using he
    clear hb he
    go_enter Tryz.func217,Tryz.ntmps217
    go_wp2
    go_ret
    exact⟨rfl,h,World.grownBy.refl _ _⟩
theorem ofInt_i64(a:Nat)(ha:a<9223372036854775808):(BitVec.ofInt 64 (a:Int)).toNat=a:=by
 rw[BitVec.ofInt_natCast,BitVec.toNat_ofNat];exact Nat.mod_eq_of_lt (by omega)
theorem i64_or_nat(a b:Nat)(ha:a<9223372036854775808)(hb:b<9223372036854775808):bits .or .i64 (a:Int) (b:Int)=((a ||| b:Nat):Int):=by
 have hx:a ||| b<2 ^ 63:=Nat.or_lt_two_pow (by omega) (by omega)
 show IntKind.i64.wrap ((BitVec.ofInt 64 (a:Int) ||| BitVec.ofInt 64 (b:Int)).toNat:Int)=_
 rw[BitVec.toNat_or,ofInt_i64 a ha,ofInt_i64 b hb,IntKind.wrap_i64]
 omega
theorem i64_xor_nat(a b:Nat)(ha:a<9223372036854775808)(hb:b<9223372036854775808):bits .xor .i64 (a:Int) (b:Int)=((a ^^^ b:Nat):Int):=by
 have hx:a ^^^ b<2 ^ 63:=Nat.xor_lt_two_pow (by omega) (by omega)
 show IntKind.i64.wrap ((BitVec.ofInt 64 (a:Int) ^^^ BitVec.ofInt 64 (b:Int)).toNat:Int)=_
 rw[BitVec.toNat_xor,ofInt_i64 a ha,ofInt_i64 b hb,IntKind.wrap_i64]
 omega
theorem nat_or_byte(a b:Nat)(hb:b<256):a*256 ||| b=a*256+b:=by
 have h:=Nat.shiftLeft_add_eq_or_of_lt (i:=8) (b:=b) hb a
 rw[Nat.shiftLeft_eq]at h
 exact h.symm
theorem or_byte(a b:Nat)(ha:a<=16777215)(hb:b<256):bits .or .i64 ((a:Int)*256) (b:Int)=((a*256+b:Nat):Int):=by
 have h:=i64_or_nat (a*256) b (by omega) (by omega)
 rw[nat_or_byte a b hb]at h
 rw[<-h,Int.natCast_mul]
 rfl
theorem num_take_succ(l:List UInt8)(j:Nat)(hj:j<l.length):Cp.num (l.take (j+1))=Cp.num (l.take j)*256+l[j].toNat:=by
 rw[List.take_succ_eq_append_getElem hj,Cp.num_snoc]
theorem num_small(l:List UInt8)(j:Nat)(hj:j<l.length)(hl:l.length<=4):Cp.num (l.take j)<=16777215:=by
 have h:=Cp.num_lt (l.take j)
 have h2:(l.take j).length<=3:=by simp;omega
 have h3:256 ^ (l.take j).length<=256 ^ 3:=Nat.pow_le_pow_right (by omega) h2
 omega
theorem bytes_len_le(r:Cp.Rd)(k:Nat):(r.bytes k).1.length<=k:=by
 unfold Cp.Rd.bytes
 simp only
 generalize (if(k:Int)<0 then r.fail 1 else if(r.rest.length:Int)<k then r.fail 10 else r)=x
 split
 ·simp;omega
 ·simp
theorem int_any(g:Nat)(r:Cp.Rd)(k:Nat)(w:World)(h:Blk w g 330 (rdCells r))(hk:k=1\/k=2\/k=4):
  Calls Tryz.prog 198 #[.pointer (some ⟨g,0,none⟩), .int .i64 k] w fun e w'=>e= .returned (.int .i64 (r.int k).1)/\Blk w' g 330 (rdCells (r.int k).2)/\w.grownBy w' (some g):=by
 unfold Cp.Rd.int
 have hlen:(r.bytes k).1.length<=4:=by have:=bytes_len_le r k;omega
 have hb0:=bytes_any g r k w h
 have hglt:=h.lt
 generalize hl:(r.bytes k).1=l at*
 generalize hr:(r.bytes k).2=r' at*
 have HL:=Lib.hid hl
 have HR:=Lib.hid hr
 have HB:=Lib.hid hb0
 clear hl hr hb0
 go_enter Tryz.func198,Tryz.ntmps198
 go_wp2_with (first | (go_at_call 142;refine(sized_yes _ (by omega) _).mono ?_;rintro e w' ⟨rfl,rfl⟩) | (go_at_call 217;refine HB.out.mono ?_;rintro e w1 ⟨rfl,hB,hg⟩;obtain⟨cap,w2,hrun,hg2,hcells⟩:=bytes_of_str (P:=Tryz.prog) w1 l Tryz.underlying9 Tryz.underlying217 Tryz.underlying5))
 go_loop [5,18] (fun n i=>∃j:Nat,j<=l.length/\i= .int .i64 j/\n= .int .i64 (Cp.num (l.take j))) (fun _ i=>l.length-(intOf i).toNat)
 case atStart=>exact⟨0,by omega,rfl,rfl⟩
 case round=>
  obtain⟨j,hj,rfl,rfl⟩:=hrel
  by_cases hlt:j<l.length
  ·have hc:=hcells j hlt
   have hnx:=num_take_succ l j hlt
   have hb24:=num_small l j hlt hlen
   have hb8:=l[j].toNat_lt
   have HNX:=Lib.hid hnx
   clear hnx hcells
   go_wp2
   exact⟨⟨j+1,by omega,by go_num,by rw[or_byte _ _ hb24 hb8,HNX.out]⟩,by simp[intOf];omega⟩
  ·clear hcells
   go_wp2
   go_ret
   refine⟨?_, ?_, ?_⟩
   ·rw[List.take_of_length_le (by omega)];rfl
   ·have:=hB.grown hg2 (by simp);exact this
   ·exact hg.trans (grown_of_none hg2 _)
theorem int_app{x y:List UInt8}{k:Nat}(h:x.length=k):Cp.Rd.int ⟨x++y,0⟩ k=(Cp.num x,⟨y,0⟩):=by
 rw[Cp.int_ok rfl (by show k<=(x++y).length;rw[List.length_append];omega)]
 show(Cp.num ((x++y).take k),(⟨(x++y).drop k,0⟩:Cp.Rd))=_
 rw[List.take_left' h,List.drop_left' h]
theorem bytes_app{x y:List UInt8}{k:Nat}(h:x.length=k):Cp.Rd.bytes ⟨x++y,0⟩ k=(x,⟨y,0⟩):=by
 rw[Cp.bytes_ok rfl (by show k<=(x++y).length;rw[List.length_append];omega)]
 show((x++y).take k,(⟨(x++y).drop k,0⟩:Cp.Rd))=_
 rw[List.take_left' h,List.drop_left' h]
end Go.Proofs.YtjoiajmbfbjnnaaGreatDoor
