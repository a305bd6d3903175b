/- Part of this proof. -/
import Derived.Deep.Slices
import Derived.Deep.Fields
import Derived.ChangeSame
import Derived.ProofKit
import Derived.Test.YtadnmegdbllaoaaGreatDoorK921
set_option maxRecDepth 100000
set_option maxHeartbeats 8000000
open And renaming intro->ahr
open Array renaming getElem?_eq_some_iff->ak1,getElem?_modify->akI
open Bool renaming eq_iff_iff->ajC
open Classical renaming byContradiction->adr
open Go.Calls renaming mono->aac
open Go.DataW renaming trod_int->ak4
open Go.IntWalk renaming i64_in->acK
open Go.RowKit.Below renaming refl->aai
open Go.Value renaming int->acS
open Go.World renaming size_alloc->aad
open List renaming append_assoc->ac8,append_nil->agX,append_of_mem->ado,filter_cons->agP,filter_eq_nil_iff->ajT,flatten_append->agm,flatten_cons->agO,flatten_nil->akY,getElem?_eq_getElem->acU,getElem?_eq_none->akK,length_append->aag,length_cons->acH,length_eq_zero_iff->adu,length_filter_le->ajA,length_map->adn,map_append->adt,map_eq_cons_iff->ag6,map_eq_nil_iff->agd,mem_append->aaf,mem_append_right->acL,mem_cons->aah,mem_cons_of_mem->acF,mem_cons_self->aae,mem_filter->adx,mem_flatten->ac2,mem_map->agj,mem_range->adq,mem_singleton->acI,nodup_append->acG,nodup_cons->acZ,nodup_nil->ahp,not_mem_nil->aaj,perm_middle->agE,range->ac9
open List.Pairwise renaming filter->agh
open List.Perm renaming swap->ahq
open Nat renaming le_refl->agA,le_trans->acN,lt_of_lt_of_le->ak6,zero_le->ac4
namespace Sq
section
variable {f g A B:List (List Tok)}{m m' s s1 s2 p q c:List Tok}{u v x y:Int}{k:Tok}
theorem TF.rev(h:TF f m)(hk:(u,v)∈f.flatten):(v,u)∈f.flatten/\(u,u)∈f.flatten:=by
 obtain⟨s,h1,h2⟩:=ac2.1 hk;obtain⟨r1,r2⟩:=(h.oG s h1).1.rev u v h2;exact⟨ac2.2 ⟨s,h1,r1⟩,ac2.2 ⟨s,h1,r2⟩⟩
theorem TF.inV(h:TF f m)(hs:s∈f)(hv:qI v s):(v,v)∈s:=Gg.1 ((h.oG s hs).1.Gh.1 hv)
theorem TF.ajg(h:TF f m):v∈members m u ↔ u=v\/∃s,s∈f/\qI u s/\qI v s:=by
 by_cases hu:(u,u)∈f.flatten
 ·obtain⟨s,hs,hk⟩:=ac2.1 hu;have hus:qI u s:=(eX hk).1;rw[h.wU hs hus];constructor
  ·intro hv;exact .inr ⟨s,hs,hus,hv⟩
  ·rintro(rfl | ⟨s',h1,h2,h3⟩)
   ·exact hus
   ·exact h.Vf h1 hs h2 hus ▸ h3
 ·rw[h.alone hu,acI];constructor
  ·intro e;exact .inl e.symm
  ·rintro(e | ⟨s',h1,h2,_⟩)
   ·exact e.symm
   ·exact absurd (ac2.2 ⟨s',h1,h.inV h1 h2⟩) hu
theorem TF.acn(h:TF f m)(dL:u≠v):(u,v)∈f.flatten ↔ (min u v,max u v)∈m:=by
 rw[h.edge];by_cases hlt:u<v
 ·rw[show min u v=u by omega,show max u v=v by omega];exact⟨λh=>⟨hlt,h⟩,λh=>h.2⟩
 ·rw[show min u v=v by omega,show max u v=u by omega];exact⟨λh1=>⟨by omega,(h.rev h1).1⟩,λh1=>(h.rev h1.2).1⟩
def AtV(u:Int)(A:List (List Tok))(s1:List Tok):Prop:=(A= []/\s1= [])\/∃a b,A= [a++b]/\b++a=(u,u)::s1
theorem AtV.mem(h:AtV u A s1):k∈(u,u)::s1 ↔ (k=(u,u)\/k∈A.flatten):=by
 rcases h with⟨rfl,rfl⟩ | ⟨a,b,rfl,e⟩
 ·simp
 ·rw[<-e];have hu:(u,u)∈b++a:=by rw[e];exact aae
  simp only[agO,akY,agX,aaf]at hu ⊢;constructor
  ·intro h;exact .inr h.symm
  ·rintro(rfl | h)
   ·exact hu
   ·exact h.symm
theorem AtV.oG(h:AtV u A s1)(hT:∀s,s∈A->pz s):pz ((u,u)::s1):=by
 rcases h with⟨rfl,rfl⟩ | ⟨a,b,rfl,e⟩
 ·exact afW u
 ·rw[<-e];exact(hT _ (by simp)).rot
theorem AtV.inV(h:AtV u A s1)(hx:qI x ((u,u)::s1)):(A= []/\x=u)\/∃s,s∈A/\qI x s/\qI u s:=by
 rcases h with⟨rfl,rfl⟩ | ⟨a,b,rfl,e⟩
 ·obtain⟨k,hk,hx⟩:=hx;rw[acI]at hk;subst hk;exact .inl ⟨rfl,by rcases hx with e | e<;>exact e.symm⟩
 ·have hu:qI u (b++a):=by rw[e];exact(eX aae).1
  rw[<-e]at hx;exact .inr ⟨_,by simp,dQ.2 (dQ.1 hx).symm,dQ.2 (dQ.1 hu).symm⟩
theorem TF.link(h:TF f m)(WB:u≠v)(hf:f.Perm (A++(B++g)))(hA:AtV u A s1)(hB:AtV v B s2)(hu:A= []->(u,u) ∉ f.flatten)(hv:B= []->(v,v) ∉ f.flatten)(hj:∀s,s∈f->qI u s->qI v s->False)(hm:∀e,e∈m' ↔ e=(min u v,max u v)\/e∈m):
  TF ((((u,u)::s1)++(u,v)::(((v,v)::s2)++ [(v,u)]))::g) m':=by
 have hmf:∀s,s∈f ↔ s∈A\/s∈B\/s∈g:=λs=>by rw[hf.mem_iff,aaf,aaf]
 have hfl:∀k:Tok,k∈f.flatten ↔ k∈A.flatten\/k∈B.flatten\/k∈g.flatten:=λk=>by
  rw[hf.flatten.mem_iff,agm,agm,aaf,aaf]
 have jF:=hf.flatten.nodup_iff.1 h.nd;rw[agm,agm,acG,acG]at jF;obtain⟨_,⟨_,ng,dB⟩,dA⟩:=jF;have al:∀ {w:Int} {s},s∈f->qI w s->(w,w)∈f.flatten:=λhs hw=>ac2.2 ⟨_,hs,h.inV hs hw⟩
 have hT:=acg (hA.oG λs hs=>(h.oG s ((hmf s).2 (.inl hs))).1) (hB.oG λs hs=>(h.oG s ((hmf s).2 (.inr (.inl hs)))).1) (λx h1 h2=>by
  rcases hA.inV h1 with⟨e1,rfl⟩ | ⟨a,a1,a2,a3⟩
  ·rcases hB.inV h2 with⟨_,e⟩ | ⟨b,b1,b2,b3⟩
   ·exact WB e
   ·exact hu e1 (al ((hmf b).2 (.inr (.inl b1))) b2)
  ·rcases hB.inV h2 with⟨e1,rfl⟩ | ⟨b,b1,b2,b3⟩
   ·exact hv e1 (al ((hmf a).2 (.inl a1)) a2)
   ·have e:=h.Vf ((hmf a).2 (.inl a1)) ((hmf b).2 (.inr (.inl b1))) a2 b2;subst e
    exact hj a ((hmf a).2 (.inl a1)) a3 b3)
 have iL:∀a b:Int,(a=u/\b=v)\/(a=v/\b=u)->(a,b) ∉ f.flatten:=λa b e hm=>by
  obtain⟨s,h1,h2⟩:=ac2.1 hm;have i:=eX h2;rcases e with⟨rfl,rfl⟩ | ⟨rfl,rfl⟩
  ·exact hj s h1 i.1 i.2
  ·exact hj s h1 i.2 i.1
 have jk:∀k:Tok,k∈((u,u)::s1)++(u,v)::(((v,v)::s2)++ [(v,u)]) ↔ k∈(u,u)::s1\/k=(u,v)\/k∈(v,v)::s2\/k=(v,u):=λk=>by
  rw[aaf,aah (a:=k) (b:=(u,v)),aaf,acI]
 refine⟨λs hs=> ?_, ?_,λx y=> ?_⟩
 ·rcases aah.1 hs with rfl | hs
  ·exact⟨hT,by simp only[aag,acH];omega⟩
  ·exact h.oG s ((hmf s).2 (.inr (.inr hs)))
 ·rw[agO,acG];refine⟨hT.nd,ng,λk hk k' VH e=> ?_⟩;subst e;have hkf:k∈f.flatten:=(hfl k).2 (.inr (.inr VH));rcases(jk k).1 hk with h1 | rfl | h1 | rfl
  ·rcases hA.mem.1 h1 with rfl | h1
   ·rcases hA with⟨e,_⟩ | ⟨a,b,rfl,e⟩
    ·exact hu e hkf
    ·refine dA (u,u) ?_ _ (acL _ VH) rfl;have:(u,u)∈b++a:=by rw[e];exact aae
     simp only[agO,akY,agX,aaf]at this ⊢;exact this.symm
   ·exact dA k h1 k (acL _ VH) rfl
  ·exact iL u v (.inl ⟨rfl,rfl⟩) hkf
  ·rcases hB.mem.1 h1 with rfl | h1
   ·rcases hB with⟨e,_⟩ | ⟨a,b,rfl,e⟩
    ·exact hv e hkf
    ·refine dB (v,v) ?_ _ VH rfl;have:(v,v)∈b++a:=by rw[e];exact aae
     simp only[agO,akY,agX,aaf]at this ⊢;exact this.symm
   ·exact dB k h1 k VH rfl
  ·exact iL v u (.inr ⟨rfl,rfl⟩) hkf
 ·rw[hm,h.edge,agO,aaf,jk,hA.mem,hB.mem,hfl];constructor
  ·rintro(e | ⟨h1,h2 | h2 | h2⟩)
   ·injection e with e1 e2;refine⟨by rw[e1,e2];omega, .inl ?_⟩;by_cases hlt:u<v
    ·exact .inr (.inl (by rw[e1,e2];congr 1<;>omega))
    ·exact .inr (.inr (.inr (by rw[e1,e2];congr 1<;>omega)))
   ·exact⟨h1, .inl (.inl (.inr h2))⟩
   ·exact⟨h1, .inl (.inr (.inr (.inl (.inr h2))))⟩
   ·exact⟨h1, .inr h2⟩
  ·rintro⟨h1,((e | h2) | e | (e | h2) | e) | h2⟩
   ·injection e with e1 e2;omega
   ·exact .inr ⟨h1, .inl h2⟩
   ·injection e with e1 e2;exact .inl (by subst e1 e2;congr 1<;>omega)
   ·injection e with e1 e2;omega
   ·exact .inr ⟨h1, .inr (.inl h2)⟩
   ·injection e with e1 e2;exact .inl (by subst e1 e2;congr 1<;>omega)
   ·exact .inr ⟨h1, .inr (.inr h2)⟩
def keep(s:List Tok):List (List Tok):=if 2<=s.length then [s]else []
theorem Vg(hT:pz s)(hxy:x≠y):(x,y)∈(keep s).flatten ↔ (x,y)∈s:=by
 unfold keep;split
 ·simp
 ·rename_i h;constructor
  ·intro h;simp at h
  ·intro h1;have h2:=(hT.rev x y h1).1
   cases s with
   |nil=>simp at h1
   |cons k s=>
    obtain rfl:s= []:=adu.1 (by simp only[acH]at h;omega);rw[acI]at h1 h2;rw[<-h2]at h1;injection h1 with e1 e2;exact absurd e1 hxy
theorem TF.cut(h:TF f m)(hf:f.Perm (s::g))(hs:s=p++(u,v)::(c++(v,u)::q))(WB:u≠v)(hm:∀e,e∈m' ↔ e∈m/\e≠(min u v,max u v)):
  TF (keep c++(keep (p++q)++g)) m':=by
 have hsf:s∈f:=hf.mem_iff.2 aae;have hTs:=(h.oG s hsf).1;have BQ:=hTs.nd;have jF:=hf.flatten.nodup_iff.1 h.nd;have hfl:∀k:Tok,k∈f.flatten ↔ k∈s\/k∈g.flatten:=λk=>by rw[hf.flatten.mem_iff,agO,aaf]
 rw[agO,acG]at jF;obtain⟨_,ng,dg⟩:=jF;rw[hs]at hTs BQ;obtain⟨t1,t2,_,_,uq⟩:=Et hTs WB
 have jk:∀k:Tok,k∈s ↔ k=(u,v)\/k=(v,u)\/k∈c\/k∈p++q:=λk=>by
  rw[hs];simp only[aaf,aah];constructor
  ·rintro(h | h | h | h | h)<;>simp[h]
  ·rintro(h | h | h | h | h)<;>simp[h]
 have iL:(u,v) ∉ c/\(v,u) ∉ c/\(u,v) ∉ p++q/\(v,u) ∉ p++q:=by
  simp only[acG,acZ,aaf,aah,not_or]at BQ;obtain⟨_,⟨⟨n1,_,n2⟩,n3,⟨n4,_⟩,n5⟩,n6⟩:=BQ;refine⟨n1,λh=>n5 _ h _ (.inl rfl) rfl, ?_, ?_⟩
  ·rw[aaf];rintro(h | h)
   ·exact n6 _ h _ (.inl rfl) rfl
   ·exact n2 h
  ·rw[aaf];rintro(h | h)
   ·exact n6 _ h _ (.inr (.inr (.inl rfl))) rfl
   ·exact n4 h
 have kk:∀ {z:List Tok} {k:Tok},k∈(keep z).flatten->k∈z:=λ{z k} h=>by
  unfold keep at h;split at h
  ·simpa using h
  ·simp at h
 have kn:∀ {z:List Tok},z.Nodup->(keep z).flatten.Nodup:=λ{z} h=>by
  unfold keep;split
  ·simpa using h
  ·simp
 have kt:∀ {z s:List Tok},pz z->s∈keep z->pz s/\2<=s.length:=λ{z s} hz h=>by
  unfold keep at h;split at h
  ·rename_i h2;rw[acI]at h;subst h;exact⟨hz,h2⟩
  ·simp at h
 refine⟨λz hz=> ?_, ?_,λx y=> ?_⟩
 ·rcases aaf.1 hz with hz | hz
  ·exact kt t1 hz
  ·rcases aaf.1 hz with hz | hz
   ·exact kt t2 hz
   ·exact h.oG z (hf.mem_iff.2 (acF _ hz))
 ·rw[agm,agm,acG,acG];refine⟨kn t1.nd,⟨kn t2.nd,ng,λk hk k' VH e=> ?_⟩,λk hk k' VH e=> ?_⟩
  ·subst e;exact dg k ((jk k).2 (.inr (.inr (.inr (kk hk))))) k VH rfl
  ·subst e;rcases aaf.1 VH with VH | VH
   ·exact uq k.1 (eX (kk hk)).1 (eX (kk VH)).1
   ·exact dg k ((jk k).2 (.inr (.inr (.inl (kk hk))))) k VH rfl
 ·have hk:∀k:Tok,k∈(keep c++(keep (p++q)++g)).flatten ↔ k∈(keep c).flatten\/k∈(keep (p++q)).flatten\/k∈g.flatten:=λk=>by rw[agm,agm,aaf,aaf]
  rw[hm,h.edge,hfl,jk,hk];constructor
  ·rintro⟨⟨h1,(e | e | h2 | h2) | h2⟩,h3⟩
   ·injection e with e1 e2;exact absurd (by subst e1 e2;congr 1<;>omega) h3
   ·injection e with e1 e2;exact absurd (by subst e1 e2;congr 1<;>omega) h3
   ·exact⟨h1, .inl ((Vg t1 (by omega)).2 h2)⟩
   ·exact⟨h1, .inr (.inl ((Vg t2 (by omega)).2 h2))⟩
   ·exact⟨h1, .inr (.inr h2)⟩
  ·rintro⟨h1,h2⟩
   have hp:∀k:Tok,k≠(u,v)->k≠(v,u)->k≠(min u v,max u v):=λk k1 k2 e=>by
    by_cases hlt:u<v
    ·exact k1 (by rw[e];congr 1<;>omega)
    ·exact k2 (by rw[e];congr 1<;>omega)
   have mW:∀k:Tok,k∈g.flatten->k ∉ s:=λk h1 h2=>dg k h2 k h1 rfl;rcases h2 with h2 | h2 | h2
   ·refine⟨⟨h1, .inl (.inr (.inr (.inl (kk h2))))⟩,hp _ (λe=> ?_) (λe=> ?_)⟩
    ·exact iL.1 (e ▸ kk h2)
    ·exact iL.2.1 (e ▸ kk h2)
   ·refine⟨⟨h1, .inl (.inr (.inr (.inr (kk h2))))⟩,hp _ (λe=> ?_) (λe=> ?_)⟩
    ·exact iL.2.2.1 (e ▸ kk h2)
    ·exact iL.2.2.2 (e ▸ kk h2)
   ·refine⟨⟨h1, .inr h2⟩,hp _ (λe=> ?_) (λe=> ?_)⟩
    ·exact mW _ h2 ((jk _).2 (.inl e))
    ·exact mW _ h2 ((jk _).2 (.inr (.inl e)))
theorem TF.at_(h:TF f m)(dL:u≠v)(hk:(u,v)∈f.flatten):∃s g,f.Perm (s::g)/\∃p c q,s=p++(u,v)::(c++(v,u)::q)\/s=p++(v,u)::(c++(u,v)::q):=by
 obtain⟨s,h1,h2⟩:=ac2.1 hk;have hr:=((h.oG s h1).1.rev u v h2).1;obtain⟨f1,f2,rfl⟩:=ado h1;refine⟨s,f1++f2,agE, ?_⟩;obtain⟨p,r,e⟩:=ado h2;rw[e]at hr;rcases aaf.1 hr with hr | hr
 ·obtain⟨p1,p2,e2⟩:=ado hr;exact⟨p1,p2,r, .inr (by rw[e,e2];simp)⟩
 ·rcases aah.1 hr with e2 | hr
  ·injection e2 with e2 _;exact absurd e2.symm dL
  ·obtain⟨c,q,e2⟩:=ado hr;exact⟨p,c,q, .inl (by rw[e,e2])⟩
end
end Sq
namespace Go.Proofs.YtadnmegdbllaoaaGreatDoor
open Go.RowKit Go.Shelf Sq Tryz
section
variable {F:Nat->Prop}{B u0 q tq m:Nat}{T:List bT->Nat->World->Prop}{S:St}{w w':World}
theorem ajh(K:Kv F B u0 T)(h:aZ B u0 q T S m w){k:Tok}(hv:yR k)(hk:S k=none):Calls prog 35 #[.pointer (some ⟨q,0,none⟩),aG k] w λe w'=>e= .returned (.tuple #[.int .i64 0, .int .i64 181])/\aZ B u0 q T S m w'/\Fr F w w':=by
 have x3:=(((Sx.start (F:=F) h).new K 73 #[.pointer (some ⟨q,0,none⟩)]).new K 71 (aI k)).new K 71 (aI k);simp only[aad]at x3;have yx:=ah (Zw K x3.st (c:=1) hv (x3.at_ 0) (by have:=x3.lo;omega) hk);have BD:=ah x3;have HK:=ah K;clear x3 h K hk hv;go_enter func35,ntmps35
 go_wp2_with fail
 refine aac yx ?_;rintro e w1 ⟨rfl,jr,eH⟩;have uJ:=ah (BD.out.call HK jr eH);clear jr eH BD yx;go_wp2;go_ret2;exact⟨rfl,uJ.out.st,uJ.out.fr⟩
theorem aco(K:Kv F B u0 T){f:List Bt}(h:gK B u0 q tq T f m w){x:Tok}(hv:yR x)(hx:x ∉ toks f):Calls prog 35 #[.pointer (some ⟨q,0,none⟩),aG x] w (TE F B u0 q tq T f m (.tuple #[.int .i64 0, .int .i64 181]) w):=by
 obtain⟨S,h1,h2⟩:=h;refine(ajh K h1.st hv (h2.none_.2 hx)).mono ?_;rintro e w' ⟨rfl,a1,a3⟩;exact⟨rfl,⟨S,h1.call K a1 a3,h2⟩,a3⟩
def FgS(X:List Bt->Nat->World->Prop)(g:List Bt)(m:Nat)(su sv:List Tok):Nat->World->Prop
 |0,W=>∃tu tv:Bt,tu.list=su/\tv.list=sv/\X (tu::tv::g) m W
 |1,W=>∃ (lu:List Bt) (tv:Bt),lu.map Bt.list=keep su/\tv.list=sv/\X (tv::(lu++g)) m W
 |_,W=>∃lu lv:List Bt,lu.map Bt.list=keep su/\lv.map Bt.list=keep sv/\X (lv++(lu++g)) m W
theorem Vh{t:Bt}{l:List Bt}{x:Tok}(hx:x∈t.list)(hl:(t.list.length=1/\l= [])\/(t.list.length≠1/\l= [t])):l.map Bt.list=keep t.list:=by
 have h0:=List.length_pos_of_mem hx;unfold keep;rcases hl with⟨h1,rfl⟩ | ⟨h1,rfl⟩
 ·rw[if_neg ak];rfl
 ·rw[if_pos ak];rfl
theorem Rl(K:Kv F B u0 T){g:List Bt}{xu xv:Int}{su sv:List Tok}(hu:(xu,xu)∈su)(hv:(xv,xv)∈sv)(hcu:su.length<=249)(hcv:sv.length<=249):∀ (j:Nat) (hj:j< [xu,xv].length) (W:World),FgS (gK B u0 q tq T) g m su sv j W->Calls prog 38 #[.pointer (some ⟨tq,0,none⟩), .int .i64 [xu,xv][j]] W λe w'=>e= .returned (.int .i64 0)/\Hid (FgS (gK B u0 q tq T) g m su sv (j+1) w')/\Hid (Fr F W w')
 |0,_,W,h=>by
  obtain⟨tu,tv,rfl,rfl,h⟩:=h;refine(LH K h hu (by rw[Bt.dU];exact hcu)).mono ?_;rintro e w' ⟨l,hl,rfl,h1,h2⟩;exact⟨rfl,ah ⟨l,tv,Vh hu hl,rfl,h1.perm agE⟩,ah h2⟩
 |1,_,W,h=>by
  obtain⟨lu,tv,hlu,rfl,h⟩:=h;refine(LH K h hv (by rw[Bt.dU];exact hcv)).mono ?_;rintro e w' ⟨l,hl,rfl,h1,h2⟩;exact⟨rfl,ah ⟨lu,l,hlu,Vh hv hl,h1⟩,ah h2⟩
 |j+2,hj,_,_=>absurd hj aH
end
section
variable {F:Nat->Prop}{B u0 q tq m:Nat}{T:List bT->Nat->World->Prop}{S:St}{w w':World}
section
variable {f:List Bt}{t:Bt}{xa xb v:Int}
theorem Ye(h:Fo f S){ta tb:Bt}(ha:ta∈f)(hb:tb∈f):ta.rt=tb.rt ↔ ta=tb:=by
 refine⟨λe=> ?_,λe=>by rw[e]⟩;have h1:=Bt.F5 (h.hang ta ha).1;have h2:=Bt.F5 (h.hang tb hb).1;rw[<-e]at h2;obtain⟨f1,f2,rfl⟩:=ado ha;have hp:(f1++ta::f2).Perm (ta::(f1++f2)):=agE;have h':=h.perm hp;rcases aah.1 (hp.mem_iff.1 hb)with e2 | bK
 ·exact e2.symm
 ·exact absurd (iP.2 ⟨tb,bK,h2⟩) (h'.tail _ h1)
theorem wV(h:t∈f):t.cnt<=(toks f).length:=by
 obtain⟨f1,f2,rfl⟩:=ado h;rw[Bt.dU];simp[toks];omega
def jnd(f:List Bt)(xa xb:Int):Bool:=decide (xa=xb)||f.any λt=>decide ((xa,xa)∈t.list)&&decide ((xb,xb)∈t.list)
theorem Jo:jnd f xa xb=true ↔ xa=xb\/∃t,t∈f/\(xa,xa)∈t.list/\(xb,xb)∈t.list:=by
 unfold jnd;simp
theorem LP(K:Kv F B u0 T)(h:gK B u0 q tq T f m w)(va:jO xa)(vb:jO xb)(hc:(toks f).length<=249):Calls prog 25 #[.pointer (some ⟨tq,0,none⟩), .int .i64 xa, .int .i64 xb] w (TE F B u0 q tq T f m (.tuple #[.bool (jnd f xa xb), .int .i64 0]) w):=by
 obtain⟨S,h1,h2⟩:=h;by_cases hx:(xa,xa)∈toks f/\(xb,xb)∈toks f
 ·obtain⟨ta,ha,Oa⟩:=iP.1 hx.1;obtain⟨tb,hb,bK⟩:=iP.1 hx.2;have ca:=acN (wV ha) hc;have cb:=acN (wV hb) hc;refine(Lp K h1 ⟨va,vb⟩ (λW hW=>am7 K hW h2 ha Oa ca hb bK cb) (.inl rfl)).mono ?_;rintro e w' ⟨rfl,a1,a3⟩;refine⟨?_,⟨S,a1,h2⟩,a3⟩;rw[if_neg ay];suffices key:decide (ta.rt=tb.rt)=jnd f xa xb by rw[key]
  rw[ajC,decide_eq_true_iff,Ye h2 ha hb,Jo]
  have un:∀t,t∈f->∀x,x∈t.list->∀t',t'∈f->x∈t'.list->t=t':=λt ht x hxx t' ht' hxy=>by
   obtain⟨f1,f2,rfl⟩:=ado ht;have hp:(f1++t::f2).Perm (t::(f1++f2)):=agE;rcases aah.1 (hp.mem_iff.1 ht')with e2 | bK
   ·exact e2.symm
   ·exact absurd (iP.2 ⟨t',bK,hxy⟩) ((h2.perm hp).tail _ hxx)
  refine⟨λe=> .inr ⟨ta,ha,Oa,by rw[e];exact bK⟩, ?_⟩;rintro(e | ⟨t,ht,e1,e2⟩)
  ·exact un ta ha _ Oa tb hb (by rw[e];exact bK)
  ·exact(un t ht _ e1 ta ha Oa).symm.trans (un t ht _ e2 tb hb bK)
 ·have iL:S (xa,xa)=none\/S (xb,xb)=none:=by
   by_cases ha:(xa,xa)∈toks f
   ·exact .inr (h2.none_.2 λhb=>hx ⟨ha,hb⟩)
   ·exact .inl (h2.none_.2 ha)
  refine(Lp K h1 ⟨va,vb⟩ (λW hW=>ai0 K hW (a:=(xa,xa)) (b:=(xb,xb)) ⟨va,va⟩ ⟨vb,vb⟩ iL) (.inr rfl)).mono ?_;rintro e w' ⟨rfl,a1,a3⟩;refine⟨?_,⟨S,a1,h2⟩,a3⟩
  have:decide (xa=xb)=jnd f xa xb:=by
   rw[ajC,decide_eq_true_iff,Jo];refine⟨.inl, ?_⟩;rintro(e | ⟨t,ht,e1,e2⟩)
   ·exact e
   ·exact absurd ⟨iP.2 ⟨t,ht,e1⟩,iP.2 ⟨t,ht,e2⟩⟩ hx
  rw[if_pos rfl,this]
theorem ank(K:Kv F B u0 T)(h:gK B u0 q tq T f m w)(hv:jO xa/\jO xb)(dL:xa≠xb):Calls prog 26 #[.pointer (some ⟨tq,0,none⟩), .int .i64 xa, .int .i64 xb] w (TE F B u0 q tq T f m (.tuple #[.bool (decide ((xa,xb)∈toks f)), .int .i64 0]) w):=by
 obtain⟨S,h1,h2⟩:=h;refine(ai1 K h1 hv dL).mono ?_;rintro e w' ⟨rfl,a1,a3⟩
 have:(S (xa,xb)).isSome=decide ((xa,xb)∈toks f):=by
  by_cases hx:(xa,xb)∈toks f
  ·obtain⟨n,hn⟩:=h2.some_.2 hx;rw[hn,decide_eq_true hx];rfl
  ·rw[h2.none_.2 hx,decide_eq_false hx];rfl
 rw[this];exact⟨rfl,⟨S,a1,h2⟩,a3⟩
theorem anl(K:Kv F B u0 T)(h:gK B u0 q tq T f m w)(hv:jO v)(ht:t∈f)(hx:(v,v)∈t.list)(hc:t.cnt<=249):Calls prog 13 #[.pointer (some ⟨tq,0,none⟩), .int .i64 v] w (TE F B u0 q tq T f m (.tuple #[.int .i64 (((t.list.length+2) / 3:Nat):Int), .int .i64 0]) w):=by
 obtain⟨S,h1,h2⟩:=h;obtain⟨n,hn⟩:=h2.some_.2 (iP.2 ⟨t,ht,hx⟩);refine(ab6 K h1 hv hn (n:=t.cnt) ak (λW hW=>Zy K hW h2 ht hx hc)).mono ?_;rintro e w' ⟨rfl,a1,a3⟩;exact⟨by rw[Bt.dU],⟨S,a1,h2⟩,a3⟩
theorem anm(K:Kv F B u0 T)(h:gK B u0 q tq T f m w)(hv:jO v)(ht:t∈f)(hx:(v,v)∈t.list)(hc:t.cnt<=249):Calls prog 27 #[.pointer (some ⟨tq,0,none⟩), .int .i64 v] w λe w'=>∃A c,e= .returned (.tuple #[.slice A t.list.length c, .int .i64 0])/\LO tokE 71 w' w.heap.size (.slice A t.list.length c) t.list/\gK B u0 q tq T f m w'/\Fr F w w':=by
 obtain⟨S,h1,h2⟩:=h;obtain⟨n,hn⟩:=h2.some_.2 (iP.2 ⟨t,ht,hx⟩);refine(afC K h1 hv hn (λW hW=>am9 K hW h2 ht hx hc)).mono ?_;rintro e w' ⟨A,c,rfl,a0,a1,a3⟩;exact⟨A,c,rfl,a0,⟨S,a1,h2⟩,a3⟩
end
end
section
variable {F:Nat->Prop}{B u0 q tq m:Nat}{T:List bT->Nat->World->Prop}{S:St}{w w':World}
section
variable {f g:List Bt}{xu xv:Int}{su sv:List Tok}
theorem ano(K:Kv F B u0 T)(h:gK B u0 q tq T f m w)(hk:yB xu xv≠0):Calls prog 10 #[.pointer (some ⟨tq,0,none⟩), .int .i64 xu, .int .i64 xv] w (TE F B u0 q tq T f m (.int .i64 (yB xu xv)) w):=by
 have MW:=ah (sS xu xv w);have rF:=h.hq.1;have I5:=h.hq.2;have lI:=h.lt;have HH:=ah h;have HK:=ah K;have aQ:Hid (∀k,F k->k<B):=ah K.low;obtain⟨r,hr⟩:=aJ (yB xu xv);rw[<-hr]at MW;have HR:=ah hr;have yV:r≠0:=by rw[hr];exact hk
 rw[<-hr];clear hr h K hk;go_enter func10,ntmps10
 go_wp2_with fail
 refine aac MW ?_;rintro e w1 ⟨y1,z1,rfl,bD⟩;have gI:=bD.size;have bK:=bD.alloc gI (.cells #[.int .i64 y1, .int .i64 z1] 42);have qQ:=ah (HH.out.below HK bK);have kL:Hid (Fr F w _):=ah (Fr.of_below (S:=F) bK);have qj:=ah bK;clear bD bK MW;go_wp2;go_ret;exact⟨rfl,qQ,kL⟩
theorem anp(K:Kv F B u0 T)(h:gK B u0 q tq T f m w)(hk:yB xu xv=0)(hv:jO xu/\jO xv)(hx:(xu,xv) ∉ toks f):Calls prog 10 #[.pointer (some ⟨tq,0,none⟩), .int .i64 xu, .int .i64 xv] w (TE F B u0 q tq T f m (.int .i64 181) w):=by
 have MW:=ah (sS xu xv w);have rF:=h.hq.1;have I5:=h.hq.2;have lI:=h.lt;have HH:=ah h;have HK:=ah K;have aQ:Hid (∀k,F k->k<B):=ah K.low;obtain⟨r,hr⟩:=aJ (yB xu xv);rw[<-hr]at MW;have HR:=ah hr;have HRK:=ah (λW (hW:gK B u0 q tq T f m W)=>aco K hW (x:=(xu,xv)) hv hx);rw[hk]at hr;subst hr;clear h K hk HR hv hx;go_enter func10,ntmps10
 go_wp2_with fail
 refine aac MW ?_;rintro e w1 ⟨y1,z1,rfl,bD⟩;have gI:=bD.size;have bK:=bD.alloc gI (.cells #[.int .i64 y1, .int .i64 z1] 42);have qQ:=ah (HH.out.below HK bK);have kL:Hid (Fr F w _):=ah (Fr.of_below (S:=F) bK);have qj:=ah bK;clear bD bK MW;go_wp2_with fail
 refine aac (Pz (w0:=w) xu xv _ qj) ?_;rintro e w3 ⟨rfl,dJ⟩;go_wp2_with fail
 refine aac (Pz (w0:=w) xv xu _ dJ) ?_;rintro e w4 ⟨rfl,iC⟩;have yU:=iC.size;have lZ:=(iC.alloc yU (.cells (aI (xu,xv)) 71)).alloc (by rw[aad];omega) (.cells (aI (xv,xu)) 71);have jl:=ah (HH.out.below HK lZ);have Gf:Hid (Fr F w _):=ah (Fr.of_below (S:=F) lZ);have Nl:=ah ((aO.new w4 71 (aI (xu,xv))).alloc (.cells (aI (xv,xu)) 71));have EU:=ah (aO.new (w4.alloc (.cells (aI (xu,xv)) 71)) 71 (aI (xv,xu)));rw[aad]at EU;obtain⟨w5,oI⟩:=aJ ((w4.alloc (.cells (aI (xu,xv)) 71)).alloc (.cells (aI (xv,xu)) 71));rw[<-oI]at jl Gf Nl EU;go_wp2_with fail
 rw[show(w4.alloc (.cells #[.int .i64 xu, .int .i64 xv] 71)).alloc (.cells #[.int .i64 xv, .int .i64 xu] 71)=w5 from oI.symm];clear oI dJ iC lZ qj HH;obtain⟨ga,hga⟩:=aJ (w4.heap.size);rw[<-hga]at Nl EU ⊢;have hwg:w.heap.size<=ga:=by omega
 have PV:=Gf.out.size;clear hga yU
 have RJ:Hid (∀W,Below w5.heap.size w5 W->Calls prog 35 #[.pointer (some ⟨q,0,none⟩),aG (xu,xv)] W λe w'=>e= .returned (.tuple #[.int .i64 0, .int .i64 181])/\Hid (gK B u0 q tq T f m w')/\Hid (Fr F w w'/\aO w' ga 71 (aI (xu,xv))/\aO w' (ga+1) 71 (aI (xv,xu))/\Fr F w5 w')/\w'.cell? ⟨tq,0,none⟩=some (.pointer (some ⟨q,0,none⟩))/\w'.cell? ⟨ga,0,none⟩=some (.int .i64 ((xu,xv)).1)/\w'.cell? ⟨ga,1,none⟩=some (.int .i64 ((xu,xv)).2)):=ah λW hW=>by
  refine(HRK.out _ (jl.out.below HK hW)).mono ?_;rintro e w' ⟨rfl,a1,a2⟩;have wo:Fr F w5 w':=(Fr.of_below hW).trans a2;have hAW:=wo.blk Nl (λa=>by have:=aQ.out _ a;omega);have E8:=wo.blk EU (λa=>by have:=aQ.out _ a;omega);exact⟨rfl,ah (a1),ah ⟨Gf.out.trans wo,hAW,E8,wo⟩,a1.cell,hAW.cell 0,hAW.cell 1⟩
 have pO:w5.cell? ⟨tq,0,none⟩=some (.pointer (some ⟨q,0,none⟩))/\w5.cell? ⟨ga,0,none⟩=some (.int .i64 ((xu,xv)).1)/\w5.cell? ⟨ga,1,none⟩=some (.int .i64 ((xu,xv)).2):=⟨jl.out.cell,Nl.out.cell 0,Nl.out.cell 1⟩;have lI:=jl.out.lt;have BP:=Nl.out.lt;go_wp2_with fail
 go_region_held3 (λW=>W.cell? ⟨tq,0,none⟩=some (.pointer (some ⟨q,0,none⟩))/\W.cell? ⟨ga,0,none⟩=some (.int .i64 ((xu,xv)).1)/\W.cell? ⟨ga,1,none⟩=some (.int .i64 ((xu,xv)).2)) (first | exact pO | exact hS6)
   (first
   |(go_at_call 35;refine aac (RJ.out _ (by first | exact aU | exact aU.drew)) ?_;rintro e w6 ⟨rfl,EZ,YN,hS6⟩))
 have mQ:=EZ;have NY:=ah YN.out.1;have HA6:=ah YN.out.2.1;have HB6:=ah YN.out.2.2.1;have VF:=NY.out.size;clear pO hS6 RJ YN EZ jl Gf Nl EU BP;go_wp2;go_ret;exact⟨rfl,mQ,NY⟩
structure CtH(t:Bt)(xu xv:Int)(x y:Tok)(p c r su sv:List Tok):Prop where
 l:t.list=p++x::(c++y::r)
 xy:(x=(xu,xv)/\y=(xv,xu))\/(x=(xv,xu)/\y=(xu,xv))
 s:(su=p++r/\sv=c)\/(su=c/\sv=p++r)
 u:(xu,xu)∈su
 v:(xv,xv)∈sv
 cnt:t.cnt<=249
theorem CtH.ne{t:Bt}{x y:Tok}{p c r:List Tok}(H:CtH t xu xv x y p c r su sv):c≠ []/\p++r≠ []/\c.length<=249/\(p++r).length<=249/\su.length<=249/\sv.length<=249:=by
 have hc:=H.cnt;rw[Bt.dU,H.l]at hc;simp at hc;have hu:=List.ne_nil_of_mem H.u;have hv:=List.ne_nil_of_mem H.v;rcases H.s with⟨rfl,rfl⟩ | ⟨rfl,rfl⟩
 ·exact⟨hv,hu,by omega,by simp;omega,by simp;omega,by omega⟩
 ·exact⟨hu,hv,by omega,by simp;omega,by omega,by simp;omega⟩
theorem acp(K:Kv F B u0 T){t:Bt}{x y:Tok}{p c r:List Tok}(H:CtH t xu xv x y p c r su sv):∃n1 n2:Nat,((n1<n2/\(xu,xv)=x/\(xv,xu)=y)\/(n2<n1/\(xv,xu)=x/\(xu,xv)=y))/\(∀W,gK B u0 q tq T (t::g) m W->Calls prog 35 #[.pointer (some ⟨q,0,none⟩),aG (xu,xv)] W (TE F B u0 q tq T (t::g) m (.tuple #[.int .i64 (n1:Nat), .int .i64 0]) W))/\(∀W,gK B u0 q tq T (t::g) m W->Calls prog 35 #[.pointer (some ⟨q,0,none⟩),aG (xv,xu)] W (TE F B u0 q tq T (t::g) m (.tuple #[.int .i64 (n2:Nat), .int .i64 0]) W)):=by
 have h1:=H.l;have h2:t.list=(p++x::c)++y::r:=by rw[h1];simp
 have hn:p.length<(p++x::c).length:=by simp
 rcases H.xy with⟨rfl,rfl⟩ | ⟨rfl,rfl⟩
 ·exact⟨_,_, .inl ⟨hn,rfl,rfl⟩,λW hW=>LC K hW aae h1 H.cnt,λW hW=>LC K hW aae h2 H.cnt⟩
 ·exact⟨_,_, .inr ⟨hn,rfl,rfl⟩,λW hW=>LC K hW aae h2 H.cnt,λW hW=>LC K hW aae h1 H.cnt⟩
theorem gK.put(K:Kv F B u0 T)(h:gK B u0 q tq T f m w){gx:Nat}{cs:Array Value}(hB:aO w gx 71 cs)(hg:tq<gx)(hf:Fr (λk=>k=gx) w w'):gK B u0 q tq T f m w':=by
 obtain⟨S,h1,h2⟩:=h;have:=h1.hq;exact⟨S,⟨h1.st.far K hB ak hf ay ay ay ay,hf.blk h1.bk (λa=>by omega),h1.hq⟩,h2⟩
theorem aji{a b:Tok}{gx:Nat}{w0 W1 W2:World}(K:Kv F B u0 T)(h:gK B u0 q tq T f m w)(hA:aO w gx 71 (aI a))(hB:aO w (gx+1) 71 (aI b))(hg:tq<gx)(hf:Fr F w0 w)(hw:w0.heap.size<=gx)(h1:Fr (λk=>k=gx) w W1)(h2:Fr (λk=>k=gx+1) W1 W2):gK B u0 q tq T f m W2/\Fr F w0 W2/\aO W1 (gx+1) 71 (aI b):=by
 have bD:=h1.blk hB (λe=>by simp at e);exact⟨(h.put K hA hg h1).put K bD (Nat.lt_succ_of_lt hg) h2,(hf.newer h1 hw).newer h2 (Nat.le_succ_of_le hw),bD⟩
theorem Yf{xu xv:Int}{gx:Nat}{w0:World}(K:Kv F B u0 T)(h:gK B u0 q tq T f m w)(hA:aO w gx 71 (aI (xu,xv)))(hB:aO w (gx+1) 71 (aI (xv,xu)))(hg:tq<gx)(hf:Fr F w0 w)(hw:w0.heap.size<=gx){w8:World}(e:w8=(((w.setCell ⟨gx,0,none⟩ (.int .i64 xv)).setCell ⟨gx,1,none⟩ (.int .i64 xu)).setCell ⟨gx+1,0,none⟩ (.int .i64 xu)).setCell ⟨gx+1,1,none⟩ (.int .i64 xv)):gK B u0 q tq T f m w8/\Fr F w0 w8/\aO w8 (gx+1) 71 (aI (xu,xv)):=by
 rw[e];obtain⟨h1,h2,h3⟩:=aji K h hA hB hg hf hw jM jM;exact⟨h1,h2,nD (p:=(xu,xv)) h3⟩
theorem acr{p r:List Tok}{lp lr:List Bt}{va vd:Value}{base:Nat}(hp:lp.map Bt.list=(if p= []then []else [p]))(hr:lr.map Bt.list=(if r= []then []else [r]))(dL:p++r≠ [])(hva:WA p.getLast? va base w)(hvd:WA r.head? vd base w):
  (∃td:Bt,td.list=p++r/\lp++(lr++g)=td::g/\((va= .slice none 0 0/\∃bd,vd= .slice (some ⟨bd,0,none⟩) 1 1)\/(vd= .slice none 0 0/\∃ba,va= .slice (some ⟨ba,0,none⟩) 1 1)))\/
  ∃ (tp tr:Bt) (k1 k2:Tok) (ba bd:Nat),(tp.list=p/\tr.list=r/\k1∈p/\k2∈r/\lp++(lr++g)=tp::tr::g)/\va= .slice (some ⟨ba,0,none⟩) 1 1/\vd= .slice (some ⟨bd,0,none⟩) 1 1/\(base<=ba/\base<=bd/\aO w ba 71 (aI k1)/\aO w bd 71 (aI k2)):=by
 by_cases e1:p= []
 ·subst e1;rw[if_pos rfl,agd]at hp;subst hp;have e2:r≠ []:=dL;rw[if_neg e2]at hr;obtain⟨tr,l,rfl,h1,h2⟩:=ag6.1 hr;rw[agd]at h2;subst h2;obtain⟨k,r',rfl⟩:=List.exists_cons_of_ne_nil e2;obtain⟨bd,_,h4,_⟩:=hvd;exact .inl ⟨tr,h1,rfl, .inl ⟨hva,bd,h4⟩⟩
 ·rw[if_neg e1]at hp;obtain⟨tp,l,rfl,h1,h2⟩:=ag6.1 hp;rw[agd]at h2;subst h2;rw[List.getLast?_eq_some_getLast e1]at hva;obtain⟨ba,h3,h4,h5⟩:=hva;by_cases e2:r= []
  ·subst e2;rw[if_pos rfl,agd]at hr;subst hr;exact .inl ⟨tp,by simpa using h1,rfl, .inr ⟨hvd,ba,h4⟩⟩
  ·rw[if_neg e2]at hr;obtain⟨tr,l,rfl,h6,h7⟩:=ag6.1 hr;rw[agd]at h7;subst h7;obtain⟨k,r',rfl⟩:=List.exists_cons_of_ne_nil e2;obtain⟨bd,h8,h9,h10⟩:=hvd;exact .inr ⟨tp,tr,_,k,ba,bd,⟨h1,h6,List.getLast_mem e1,aae,rfl⟩,h4,h9,h3,h8,h5,h10⟩
theorem acs(K:Kv F B u0 T){tp tr tc:Bt}{p r:List Tok}{k1 k2:Tok}(htp:tp.list=p)(Oh:tr.list=r)(h1:k1∈p)(h2:k2∈r)(hn:(p++r).length<=249){gb:Nat}(hW:gK B u0 q tq T (tp::([tr]++(tc::g))) m w)(hb:aO w gb 71 #[.int .i64 k1.1, .int .i64 k1.2, .int .i64 k2.1, .int .i64 k2.2])(hg:B<=gb):Calls prog 37 #[.pointer (some ⟨tq,0,none⟩), .slice (some ⟨gb,0,none⟩) 2 2] w λe w'=>∃t':Bt,t'.list=p++lists [tr]/\TE F B u0 q tq T (t'::(tc::g)) m (.int .i64 0) w e w':=by
 have hk:xZ [k2] [tr]:=⟨by rw[Oh];exact h2,trivial⟩
 have hc:tp.list.length+(lists [tr]).length<=249:=by
  rw[aag]at hn;rw[htp,lists,List.map_singleton,List.flatten_singleton,Oh];exact hn
 have zW:aO w gb 71 (tokE.cells (k1:: [k2])).toArray:=hb;have:=PD K (k0:=k1) (ks:= [k2]) (ts:= [tr]) (g:=tc::g) (t0:=tp) hW (by rw[htp];exact h1) hk (List.cons_ne_nil _ _) hc zW hg aH;rw[htp]at this;exact this
theorem afY{tp tr tc:Bt}{lp lr:List Bt}(h:gK B u0 q tq T (tc::(lp++(lr++g))) m w)(hpg:lp++(lr++g)=tp::tr::g):gK B u0 q tq T (tp::([tr]++(tc::g))) m w:=by
 rw[hpg]at h;exact h.perm (agE (a:=tc) (l₁:= [tp,tr]) (l₂:=g)).symm
theorem ajj(K:Kv F B u0 T){t:Bt}{x y:Tok}{p c r:List Tok}(H:CtH t xu xv x y p c r su sv)(h:gK B u0 q tq T (t::g) m w):Calls prog 36 #[.pointer (some ⟨tq,0,none⟩),aG x] w λe w'=>∃va vb,e= .returned (.tuple #[va,vb, .int .i64 0])/\Hid (WA p.getLast? va w.heap.size w')/\Hid (∃ (lp:List Bt) (t2:Bt),lp.map Bt.list=(if p= []then []else [p])/\t2.list=c++y::r/\gK B u0 q tq T (t2::(lp++g)) m w')/\Hid (Fr F w w'):=by
 refine(LJ K h H.l H.cnt).mono ?_;rintro e w' ⟨va,vb,rfl,h1,_,⟨l,hl,h3⟩,h4⟩;rw[if_neg (by simp:c++y::r≠ [])]at hl;obtain⟨lp,l2,rfl,hp,h2⟩:=List.map_eq_append_iff.1 hl;obtain⟨t2,l3,rfl,AZ,hn⟩:=ag6.1 h2;rw[agd]at hn;subst hn;exact⟨va,vb,rfl,ah h1,ah ⟨lp,t2,hp,AZ,h3.perm (by rw[ac8];exact agE)⟩,ah h4⟩
theorem ajk(K:Kv F B u0 T){t t2:Bt}{lp:List Bt}{x y:Tok}{p c r:List Tok}(H:CtH t xu xv x y p c r su sv)(ht:t2.list=c++y::r)(h:gK B u0 q tq T (t2::(lp++g)) m w):Calls prog 36 #[.pointer (some ⟨tq,0,none⟩),aG y] w λe w'=>∃va vb,e= .returned (.tuple #[va,vb, .int .i64 0])/\Hid (WA r.head? vb w.heap.size w')/\Hid (∃ (lr:List Bt) (tc:Bt),lr.map Bt.list=(if r= []then []else [r])/\tc.list=c/\gK B u0 q tq T (tc::(lp++(lr++g))) m w')/\Hid (Fr F w w'):=by
 have hc:t2.cnt<=249:=by
  have:=H.cnt;rw[Bt.dU,H.l]at this;rw[Bt.dU,ht];simp at this ⊢;omega
 refine(LJ K h ht hc).mono ?_;rintro e w' ⟨va,vb,rfl,_,h1,⟨l,hl,h3⟩,h4⟩;rw[if_neg H.ne.1]at hl;obtain⟨tc,lr,rfl,htc,hlr⟩:=ag6.1 hl
 exact⟨va,vb,rfl,ah h1,ah ⟨lr,tc,hlr,htc,h3.perm (.cons _ (by
  show(lr++(lp++g)).Perm _;rw[<-ac8, <-ac8]
  exact List.Perm.append_right g List.perm_append_comm))⟩,ah h4⟩
end
end
section
variable {F:Nat->Prop}{B u0 q tq m:Nat}{T:List bT->Nat->World->Prop}{S:St}{w w':World}
theorem acu:∀args w,(callFunc 37 args).run prog w= .ok (.enter 37 args) w:=λargs w=>by kernel_rfl
section
variable {o:Oper}{a:Act}{x y:Operand}
theorem Yg{p0 p1:Tok}(ho:o.op= .buildSlice 57 2 #[(0,x),(1,y)])(h0:a.eval x=aG p0)(h1:a.eval y=aG p1):(execOp a.eval o).run prog w= .ok (.value (.slice (some ⟨w.heap.size,0,none⟩) 2 2)) (w.alloc (.cells #[.int .i64 p0.1, .int .i64 p0.2, .int .i64 p1.1, .int .i64 p1.2] 71)):=by
 unfold execOp;simp only[ho,List.map_toArray,List.map_cons,List.map_nil,h0,h1];simp[go_sem]
end
section
variable {f g:List Bt}{xu xv:Int}{s1 s2:List Tok}
theorem anq(K:Kv F B u0 T){t:Bt}{x y:Tok}{p c r:List Tok}(h:gK B u0 q tq T (t::g) m w)(hk:yB xu xv=0)(H:CtH t xu xv x y p c r s1 s2):Calls prog 10 #[.pointer (some ⟨tq,0,none⟩), .int .i64 xu, .int .i64 xv] w λe w'=>∃lu lv:List Bt,lu.map Bt.list=keep s1/\lv.map Bt.list=keep s2/\TE F B u0 q tq T (lv++(lu++g)) m (.int .i64 0) w e w':=by
 have MW:=ah (sS xu xv w);have rF:=h.hq.1;have I5:=h.hq.2;have lI:=h.lt;have HH:=ah h;have HK:=ah K;have aQ:Hid (∀k,F k->k<B):=ah K.low;obtain⟨mk,hr⟩:=aJ (yB xu xv);rw[<-hr]at MW;have HR:=ah hr;obtain⟨n1,n2,hor,hra,hrb⟩:=acp (q:=q) (tq:=tq) (m:=m) (g:=g) K H;have Dz:=ah hra;have HRB:=ah hrb;have HOR:=ah hor;have HN:=ah H.ne;have Ot:=ah H;rw[hk]at hr;subst hr;clear h K hk HR H hor hra hrb;go_enter func10,ntmps10
 go_wp2_with fail
 refine aac MW ?_;rintro e w1 ⟨y1,z1,rfl,bD⟩;have gI:=bD.size;have bK:=bD.alloc gI (.cells #[.int .i64 y1, .int .i64 z1] 42);have qQ:=ah (HH.out.below HK bK);have kL:Hid (Fr F w _):=ah (Fr.of_below (S:=F) bK);have qj:=ah bK;clear bD bK MW;go_wp2_with fail
 refine aac (Pz (w0:=w) xu xv _ qj) ?_;rintro e w3 ⟨rfl,dJ⟩;go_wp2_with fail
 refine aac (Pz (w0:=w) xv xu _ dJ) ?_;rintro e w4 ⟨rfl,iC⟩;have yU:=iC.size;have lZ:=(iC.alloc yU (.cells (aI (xu,xv)) 71)).alloc (by rw[aad];omega) (.cells (aI (xv,xu)) 71);have jl:=ah (HH.out.below HK lZ);have Gf:Hid (Fr F w _):=ah (Fr.of_below (S:=F) lZ);have Nl:=ah ((aO.new w4 71 (aI (xu,xv))).alloc (.cells (aI (xv,xu)) 71));have EU:=ah (aO.new (w4.alloc (.cells (aI (xu,xv)) 71)) 71 (aI (xv,xu)));rw[aad]at EU;obtain⟨w5,oI⟩:=aJ ((w4.alloc (.cells (aI (xu,xv)) 71)).alloc (.cells (aI (xv,xu)) 71));rw[<-oI]at jl Gf Nl EU;go_wp2_with fail
 rw[show(w4.alloc (.cells #[.int .i64 xu, .int .i64 xv] 71)).alloc (.cells #[.int .i64 xv, .int .i64 xu] 71)=w5 from oI.symm];clear oI dJ iC lZ qj HH;obtain⟨ga,hga⟩:=aJ (w4.heap.size);rw[<-hga]at Nl EU ⊢;have hwg:w.heap.size<=ga:=by omega
 have PV:=Gf.out.size;clear hga yU
 have RJ:Hid (∀W,Below w5.heap.size w5 W->Calls prog 35 #[.pointer (some ⟨q,0,none⟩),aG (xu,xv)] W λe w'=>e= .returned (.tuple #[.int .i64 (n1:Nat), .int .i64 0])/\Hid (gK B u0 q tq T (t::g) m w')/\Hid (Fr F w w'/\aO w' ga 71 (aI (xu,xv))/\aO w' (ga+1) 71 (aI (xv,xu))/\Fr F w5 w')/\w'.cell? ⟨tq,0,none⟩=some (.pointer (some ⟨q,0,none⟩))/\w'.cell? ⟨ga,0,none⟩=some (.int .i64 ((xu,xv)).1)/\w'.cell? ⟨ga,1,none⟩=some (.int .i64 ((xu,xv)).2)):=ah λW hW=>by
  refine(Dz.out _ (jl.out.below HK hW)).mono ?_;rintro e w' ⟨rfl,a1,a2⟩;have wo:Fr F w5 w':=(Fr.of_below hW).trans a2;have hAW:=wo.blk Nl (λa=>by have:=aQ.out _ a;omega);have E8:=wo.blk EU (λa=>by have:=aQ.out _ a;omega);exact⟨rfl,ah (a1),ah ⟨Gf.out.trans wo,hAW,E8,wo⟩,a1.cell,hAW.cell 0,hAW.cell 1⟩
 have pO:w5.cell? ⟨tq,0,none⟩=some (.pointer (some ⟨q,0,none⟩))/\w5.cell? ⟨ga,0,none⟩=some (.int .i64 ((xu,xv)).1)/\w5.cell? ⟨ga,1,none⟩=some (.int .i64 ((xu,xv)).2):=⟨jl.out.cell,Nl.out.cell 0,Nl.out.cell 1⟩;have lI:=jl.out.lt;have BP:=Nl.out.lt;go_wp2_with fail
 go_region_held3 (λW=>W.cell? ⟨tq,0,none⟩=some (.pointer (some ⟨q,0,none⟩))/\W.cell? ⟨ga,0,none⟩=some (.int .i64 ((xu,xv)).1)/\W.cell? ⟨ga,1,none⟩=some (.int .i64 ((xu,xv)).2)) (first | exact pO | exact hS6)
   (first
   |(go_at_call 35;refine aac (RJ.out _ (by first | exact aU | exact aU.drew)) ?_;rintro e w6 ⟨rfl,EZ,YN,hS6⟩))
 have mQ:=EZ;have NY:=ah YN.out.1;have HA6:=ah YN.out.2.1;have HB6:=ah YN.out.2.2.1;have VF:=NY.out.size;clear pO hS6 RJ YN EZ jl Gf Nl EU BP
 have HM7:Hid (∀W,Below w6.heap.size w6 W->Calls prog 35 #[.pointer (some ⟨q,0,none⟩),aG (xv,xu)] W λe w'=>e= .returned (.tuple #[.int .i64 (n2:Nat), .int .i64 0])/\Hid (gK B u0 q tq T (t::g) m w')/\Hid (Fr F w w'/\aO w' ga 71 (aI (xu,xv))/\aO w' (ga+1) 71 (aI (xv,xu))/\Fr F w6 w')/\w'.cell? ⟨tq,0,none⟩=some (.pointer (some ⟨q,0,none⟩))/\w'.cell? ⟨ga+1,0,none⟩=some (.int .i64 ((xv,xu)).1)/\w'.cell? ⟨ga+1,1,none⟩=some (.int .i64 ((xv,xu)).2)):=ah λW hW=>by
  refine(HRB.out _ (mQ.out.below HK hW)).mono ?_;rintro e w' ⟨rfl,a1,a2⟩;have wo:Fr F w6 w':=(Fr.of_below hW).trans a2;have hAW:=wo.blk HA6 (λa=>by have:=aQ.out _ a;omega);have E8:=wo.blk HB6 (λa=>by have:=aQ.out _ a;omega);exact⟨rfl,ah (a1),ah ⟨NY.out.trans wo,hAW,E8,wo⟩,a1.cell,E8.cell 0,E8.cell 1⟩
 have pO:w6.cell? ⟨tq,0,none⟩=some (.pointer (some ⟨q,0,none⟩))/\w6.cell? ⟨ga+1,0,none⟩=some (.int .i64 ((xv,xu)).1)/\w6.cell? ⟨ga+1,1,none⟩=some (.int .i64 ((xv,xu)).2):=⟨mQ.out.cell,HB6.out.cell 0,HB6.out.cell 1⟩;have lI:=mQ.out.lt;have BP:=HB6.out.lt;go_wp2_with fail
 go_region_held3 (λW=>W.cell? ⟨tq,0,none⟩=some (.pointer (some ⟨q,0,none⟩))/\W.cell? ⟨ga+1,0,none⟩=some (.int .i64 ((xv,xu)).1)/\W.cell? ⟨ga+1,1,none⟩=some (.int .i64 ((xv,xu)).2)) (first | exact pO | exact hS7)
   (first
   |(go_at_call 35;refine aac (HM7.out _ (by first | exact aU | exact aU.drew)) ?_;rintro e w7 ⟨rfl,HR7,HG7,hS7⟩))
 have nJ:=HR7;have Va:=ah HG7.out.1;have YH:=ah HG7.out.2.1;have Si:=ah HG7.out.2.2.1;have hz7:=Va.out.size;clear pO hS7 HM7 HG7 HR7 mQ NY HA6 HB6 BP;clear Dz HRB;have hqg:=nJ.out.lt;have jP:tq<ga:=by omega
 have c0:=YH.out.cell 0;have c1:=YH.out.cell 1;have d0:=Si.out.cell 0;have d1:=Si.out.cell 1;have f0:=YH.out.frozen 0;have f1:=YH.out.frozen 1;have g0:=Si.out.frozen 0;have g1:=Si.out.frozen 1;change w7.cell? ⟨ga,0,none⟩=some (.int .i64 xu)at c0;change w7.cell? ⟨ga,1,none⟩=some (.int .i64 xv)at c1;change w7.cell? ⟨ga+1,0,none⟩=some (.int .i64 xv)at d0;change w7.cell? ⟨ga+1,1,none⟩=some (.int .i64 xu)at d1;rcases HOR.out with⟨hlt,ex,ey⟩ | ⟨hlt,ex,ey⟩
 case' inl=>
  have yt:¬ (n2:Int)<(n1:Int):=by omega
  clear hlt HOR;go_wp2_with fail
  clear c0 c1 d0 d1 f0 f1 g0 g1;subst ex ey;have HY8:=Si;have yZ:=nJ;have Rh:=Va;obtain⟨w8,Iy⟩:=aJ (w7);rw[<-Iy]at HY8 yZ Rh ⊢;clear Iy
 case' inr=>
  have yt:(n2:Int)<(n1:Int):=by omega
  clear hlt HOR;go_wp2_with fail
  clear c0 c1 d0 d1 f0 f1 g0 g1;subst ex ey;obtain⟨w8,Iy⟩:=aJ ((((w7.setCell ⟨ga,0,none⟩ (.int .i64 xv)).setCell ⟨ga,1,none⟩ (.int .i64 xu)).setCell ⟨ga+1,0,none⟩ (.int .i64 xu)).setCell ⟨ga+1,1,none⟩ (.int .i64 xv));obtain⟨jr,mW,Aa⟩:=Yf HK nJ YH Si jP Va hwg Iy;have HY8:=ah Aa;have yZ:=ah jr;have Rh:=ah mW;rw[<-Iy];clear Iy jr mW Aa
 all_goals
  clear YH Si nJ Va yt hz7;have hz8:=Rh.out.size;have ZO:=ajj HK Ot yZ;refine aac ZO ?_;clear ZO;rintro e w9 ⟨va,vb,rfl,hva,hlp,hf9⟩;obtain⟨lp,t2,ar5,AZ,ht9⟩:=hlp.out;have hy9:=hf9.out.blk HY8 (λa=>by have:=aQ.out _ a;omega);have d0:w9.cell? ⟨ga+1,0,none⟩=some (.int .i64 _):=hy9.cell 0;have d1:w9.cell? ⟨ga+1,1,none⟩=some (.int .i64 _):=hy9.cell 1;dsimp only at d0 d1;have anr:=ah (Rh.out.trans hf9);have ar6:=ah (hva.out.lower hz8);have HLP:=ah ar5;have HT9:=ah ht9;have qQ:=ah AZ;clear hva hlp hf9 ar5 hy9 HY8 yZ Rh AZ ht9;go_wp2_with fail
  have Dy:=ajk HK Ot qQ HT9;refine aac Dy ?_;clear Dy;rintro e w10 ⟨vc,vd,rfl,hvd,hlr,ant⟩;obtain⟨lr,tc,ar7,htc,afZ⟩:=hlr.out;have hz9:=anr.out.size;have Yt:=ah (acr (g:=g) HLP ar7 HN.out.2.1 (ar6.out.fr ant (λk a=>by have:=aQ.out k a;omega)) (hvd.out.lower hz9));have LQ:=ah (anr.out.trans ant);have ar8:=LQ.out.size;have Rn:=ah afZ;have HTC:=ah htc;clear ar7 htc afZ hlr hvd ant ar6 anr HT9 HLP qQ d0 d1;rcases Yt.out with⟨td,htd,hpg,⟨rfl,bd,rfl⟩ | ⟨rfl,ba,rfl⟩⟩ | ⟨tp,tr,k1,k2,ba,bd,hA,rfl,rfl,hB⟩
  ·have LU:Hid (∃td:Bt,td.list=p++r/\gK B u0 q tq T (tc::td::g) m w10):=ah ⟨td,htd,by rw[<-hpg];exact Rn⟩;have uY:=LQ;obtain⟨xB,Vj⟩:=aJ (w10);rw[<-Vj]at LU uY ⊢;clear Vj hpg htd Yt Rn LQ ar8;have amg:=uY.out.size;have lF:=(aai xB.heap.size xB).alloc aK (.cells #[.int .i64 xu, .int .i64 xv] 3);have Ig:Hid (Fr F w _):=ah (uY.out.then_ lF)
   have Vk:Hid (FgS (gK B u0 q tq T) g m s1 s2 0 _):=ah (by
    obtain⟨td,h1,h2⟩:=LU.out;rcases Ot.out.s with⟨e1,e2⟩ | ⟨e1,e2⟩
    ·exact⟨td,tc,h1.trans e1.symm,HTC.out.trans e2.symm,(h2.below HK lF).perm (ahq _ _ _)⟩
    ·exact⟨tc,td,HTC.out.trans e1.symm,h1.trans e2.symm,h2.below HK lF⟩)
   have Gm:=ah (aO.new xB 3 #[.int .i64 xu, .int .i64 xv]);have HFG:=ah (Rl (q:=q) (tq:=tq) (m:=m) (g:=g) HK Ot.out.u Ot.out.v HN.out.2.2.2.2.1 HN.out.2.2.2.2.2);clear lF LU uY HTC;go_wp2
   go_loopw [110] (λi wr=>∃j:Nat,j<=2/\i= .int .i64 (j:Nat)/\Hid (FgS (gK B u0 q tq T) g m s1 s2 j wr)/\Hid (Fr F w wr)/\Hid (aO wr xB.heap.size 3 #[.int .i64 xu, .int .i64 xv])) (λi _=>2-(intOf i).toNat)
   case atStart=>exact⟨0,ac4 _,rfl,Vk,Ig,Gm⟩
   case round=>
    obtain⟨j,hj,rfl,HT,HF,HB⟩:=hrel;have Oe:=HF.out.size;clear Vk Ig Gm;by_cases hlt:j<2
    ·have c0:=Lm (l:= [xu,xv]) HB (k:=j) hlt;have Nc:=HB.out.lt;have hT:=HFG.out j hlt _ HT;obtain⟨xj,hxj⟩:=aJ ([xu,xv][j]'hlt);rw[<-hxj]at c0 hT;have HT_:=ah hT;have qg:(j:Int)<(2:Int):=by omega
     have A8:IntKind.i64.wrap ((j:Int)+1)=((j+1:Nat):Int):=by rw[acK _ ak];rfl
     clear hT hxj HT;go_wp2_with fail
     refine aac HT_ ?_;rintro e w' ⟨rfl,h1,h2⟩;have HFn:=ah (HF.out.trans h2);have Og:=ah (h2.out.blk HB (λa=>by have:=aQ.out _ a;omega));clear h2 HF HB HT_;go_wp2
     go_roundw
     case rel=>exact⟨j+1,by omega,by go_num,h1,HFn,Og⟩
     case measure=>simp[intOf];omega
    ·obtain rfl:j=2:=by omega
     have HE:Hid (∃lu lv:List Bt,lu.map Bt.list=keep s1/\lv.map Bt.list=keep s2/\TE F B u0 q tq T (lv++(lu++g)) m (.int .i64 0) w (.returned (.int .i64 0)) _):=ah (by
      obtain⟨lu,lv,h1,h2,h3⟩:=HT.out
      exact⟨lu,lv,h1,h2,rfl,h3,HF⟩)
     clear hlt HT HF HB HFG;go_wp2;go_ret;exact HE
  ·have LU:Hid (∃td:Bt,td.list=p++r/\gK B u0 q tq T (tc::td::g) m w10):=ah ⟨td,htd,by rw[<-hpg];exact Rn⟩;have uY:=LQ;obtain⟨xB,Vj⟩:=aJ (w10);rw[<-Vj]at LU uY ⊢;clear Vj hpg htd Yt Rn LQ ar8;have amg:=uY.out.size;have lF:=(aai xB.heap.size xB).alloc aK (.cells #[.int .i64 xu, .int .i64 xv] 3);have Ig:Hid (Fr F w _):=ah (uY.out.then_ lF)
   have Vk:Hid (FgS (gK B u0 q tq T) g m s1 s2 0 _):=ah (by
    obtain⟨td,h1,h2⟩:=LU.out;rcases Ot.out.s with⟨e1,e2⟩ | ⟨e1,e2⟩
    ·exact⟨td,tc,h1.trans e1.symm,HTC.out.trans e2.symm,(h2.below HK lF).perm (ahq _ _ _)⟩
    ·exact⟨tc,td,HTC.out.trans e1.symm,h1.trans e2.symm,h2.below HK lF⟩)
   have Gm:=ah (aO.new xB 3 #[.int .i64 xu, .int .i64 xv]);have HFG:=ah (Rl (q:=q) (tq:=tq) (m:=m) (g:=g) HK Ot.out.u Ot.out.v HN.out.2.2.2.2.1 HN.out.2.2.2.2.2);clear lF LU uY HTC;go_wp2
   go_loopw [110] (λi wr=>∃j:Nat,j<=2/\i= .int .i64 (j:Nat)/\Hid (FgS (gK B u0 q tq T) g m s1 s2 j wr)/\Hid (Fr F w wr)/\Hid (aO wr xB.heap.size 3 #[.int .i64 xu, .int .i64 xv])) (λi _=>2-(intOf i).toNat)
   case atStart=>exact⟨0,ac4 _,rfl,Vk,Ig,Gm⟩
   case round=>
    obtain⟨j,hj,rfl,HT,HF,HB⟩:=hrel;have Oe:=HF.out.size;clear Vk Ig Gm;by_cases hlt:j<2
    ·have c0:=Lm (l:= [xu,xv]) HB (k:=j) hlt;have Nc:=HB.out.lt;have hT:=HFG.out j hlt _ HT;obtain⟨xj,hxj⟩:=aJ ([xu,xv][j]'hlt);rw[<-hxj]at c0 hT;have HT_:=ah hT;have qg:(j:Int)<(2:Int):=by omega
     have A8:IntKind.i64.wrap ((j:Int)+1)=((j+1:Nat):Int):=by rw[acK _ ak];rfl
     clear hT hxj HT;go_wp2_with fail
     refine aac HT_ ?_;rintro e w' ⟨rfl,h1,h2⟩;have HFn:=ah (HF.out.trans h2);have Og:=ah (h2.out.blk HB (λa=>by have:=aQ.out _ a;omega));clear h2 HF HB HT_;go_wp2
     go_roundw
     case rel=>exact⟨j+1,by omega,by go_num,h1,HFn,Og⟩
     case measure=>simp[intOf];omega
    ·obtain rfl:j=2:=by omega
     have HE:Hid (∃lu lv:List Bt,lu.map Bt.list=keep s1/\lv.map Bt.list=keep s2/\TE F B u0 q tq T (lv++(lu++g)) m (.int .i64 0) w (.returned (.int .i64 0)) _):=ah (by
      obtain⟨lu,lv,h1,h2,h3⟩:=HT.out
      exact⟨lu,lv,h1,h2,rfl,h3,HF⟩)
     clear hlt HT HF HB HFG;go_wp2;go_ret;exact HE
  ·obtain⟨htp,Oh,vg,sV,hpg⟩:=hA;obtain⟨bD,bK,Oo,hkd⟩:=hB;have HKA:=ah Oo;have HKD:=ah hkd;have HTP:Hid (tp.list=p):=ah htp;have afZ:gK B u0 q tq T (tp::([tr]++(tc::g))) m w10:=afY Rn hpg;have Ld:B<=w10.heap.size:=by omega
   have aCh:=HKA.out.lt;have aCi:=HKD.out.lt;have aCj:=afZ.lt;have HTR:Hid (tr.list=r):=ah Oh;have HCH:Hid (∀ (gb:Nat) (W:World),gK B u0 q tq T (tp::([tr]++(tc::g))) m W->aO W gb 71 #[.int .i64 k1.1, .int .i64 k1.2, .int .i64 k2.1, .int .i64 k2.2]->B<=gb->Calls prog 37 #[.pointer (some ⟨tq,0,none⟩), .slice (some ⟨gb,0,none⟩) 2 2] W λe w'=>∃t':Bt,t'.list=p++lists [tr]/\TE F B u0 q tq T (t'::(tc::g)) m (.int .i64 0) W e w'):=ah λgb W hW hb hg=>acs HK htp Oh vg sV HN.out.2.2.2.1 hW hb hg;obtain⟨S0,hs0,Wi⟩:=afZ;have Vl:=ah hs0.bk;have MO:=ah (ahr hs0.st Wi);clear Oo hkd hpg htp Oh vg sV Rn Yt hs0 Wi;go_wp2_with fail
   refine aP (λu=>⟨#[_,_,_,_,_,_,_,_,_,_,_,_,_,_,_,_,_,_,u 9,_,_,_,_,_,_,_,_,_,_,_,_,_,_,_,_,_,_,_,_,_,_,_,_,_,_,_,_,_,_,_,_,_,_,_,_,_,_,_,_,_,_,_,_,_,_,_,_,_,_,_,_,_,_,_,_,_,_,_,_,_,_,_,_,_,_,_,_,_,_,_,_,_,_,_,u 0,u 1,u 2,u 3,u 4,u 5,u 6,u 7,u 8,_,_,_,_,_,_,_,_,_,_,_,_,_,_,_,_,_,_],_⟩)
    [bf tq 0,
     aF (.slice (some ⟨ba,0,none⟩) 1 1),
     bf ba 0,
     aF (aG (k1)),
     aF (.slice (some ⟨bd,0,none⟩) 1 1),
     bf bd 0,
     aF (aG (k2)),
     Fl.row _ 71 2 (#[.int .i64 k1.1, .int .i64 k1.2, .int .i64 k2.1, .int .i64 k2.2]),
     aF (.int .i64 (0)),
     aF (.int .i64 (0))]
    F [8] (λj W=>dG B u0 q T (m) (match j with | 0=>Fo (tp::([tr]++(tc::g))) | _=>λS1=>∃t':Bt,t'.list=p++lists [tr]/\Fo (t'::(tc::g)) S1) W) aV aV [] rfl aH (by simp<;>omega) (λk hk=>⟨by have:=aQ.out k hk;omega,by simp⟩) ⟨λ_=>undef,rfl⟩ (⟨S0,MO.out.1.below HK aU.drew,MO.out.2⟩) ?_ ?_ ?_
   ·intro i o hi ho u W hf hold aj jP;have aW:=fw aQ hf Vl;have dI:=fw aQ hf HKA;have fQ:=fw aQ hf HKD
    match i,ho with
    |0,ho|1,ho|4,ho=>exact sv ho (bg rfl rfl)
    |2,ho=>exact sv ho (Ll rfl (aj 1 rfl) ay)
    |3,ho=>exact sv ho (aC rfl (aj 2 rfl) (dI.cell 0) (dI.cell 1))
    |5,ho=>exact sv ho (Ll rfl (aj 4 rfl) ay)
    |6,ho=>exact sv ho (aC rfl (aj 5 rfl) (fQ.cell 0) (fQ.cell 1))
    |7,ho=>
     obtain rfl:=aA ho;exact aY.mem (Yg rfl (aj 3 rfl) (aj 6 rfl)) rfl rfl rfl ⟨W.heap.size,hf.size,rfl,aO.new _ _ _⟩ (.inr rfl) (λ_ h=>dG.below HK h (aU.alloc aK _))
    |8,ho=>
     exact absurd aH hi
    |9,ho=>exact sv ho (jo rfl (aj 8 rfl))
    |n+10,ho=>exact absurd ho aH
   ·intro t i o ht ho u W hf bG aj;have aW:=fw aQ hf Vl;have dI:=fw aQ hf HKA;have fQ:=fw aQ hf HKD
    match t,ht with
    |0,ht=>
     have ht:=aA ht;subst ht;obtain rfl:=aA ho;obtain⟨bj,VE,Rx,MB⟩:=aj 7 rfl;refine⟨aB rfl,Does.call (bV acu rfl (aj 0 rfl) Rx) ?_⟩;obtain⟨S1,hs,hp⟩:dG B u0 q T m (λS1=>Fo (tp::([tr]++(tc::g))) S1) W:=bG;refine aac (HCH.out bj W ⟨S1,⟨hs,aW,I5⟩,hp⟩ MB (acN Ld VE)) ?_;rintro e w' ⟨t',h1,rfl,⟨S2,h2,h3⟩,h4⟩;exact⟨_,rfl,rfl,rfl,h4,S2,h2.st,t',h1,h3⟩
    |n+1,ht=>exact absurd ht aH
   ·intro u W hf bG au;have aW:=fw aQ hf Vl;have dI:=fw aQ hf HKA;have fQ:=fw aQ hf HKD;have e0:=au.q 0;have e1:=au.q 1;have e2:=au.q 2;have e3:=au.q 3;have e4:=au.q 4;have e5:=au.q 5;have e6:=au.q 6;have e8:=au.q 8;have e9:=au.q 9;simp only[e0,e1,e2,e3,e4,e5,e6,e8,e9];obtain⟨S1,hs,t',ZJ,hp⟩:dG B u0 q T m (λS1=>∃t':Bt,t'.list=p++lists [tr]/\Fo (t'::(tc::g)) S1) W:=bG;have LU:Hid (∃td:Bt,td.list=p++r/\gK B u0 q tq T (tc::td::g) m W):=ah ⟨t',by rw[ZJ,lists,List.map_singleton,HTR.out];simp,gK.perm ⟨S1,⟨hs,hf.nil_.blk Vl (λa=>by have:=aQ.out _ a;omega),I5⟩,hp⟩ (ahq _ _ _)⟩;have uY:=ah (LQ.out.trans hf.nil_);obtain⟨xB,Vj⟩:=aJ (W);rw[<-Vj]at LU uY ⊢;clear au hf hs hp ZJ e0 e1 e2 e3 e4 e5 e6 e8 e9 aW dI fQ Vj HCH MO Vl HKA HKD HTP HTR LQ;have amg:=uY.out.size;have lF:=(aai xB.heap.size xB).alloc aK (.cells #[.int .i64 xu, .int .i64 xv] 3);have Ig:Hid (Fr F w _):=ah (uY.out.then_ lF)
    have Vk:Hid (FgS (gK B u0 q tq T) g m s1 s2 0 _):=ah (by
     obtain⟨td,h1,h2⟩:=LU.out;rcases Ot.out.s with⟨e1,e2⟩ | ⟨e1,e2⟩
     ·exact⟨td,tc,h1.trans e1.symm,HTC.out.trans e2.symm,(h2.below HK lF).perm (ahq _ _ _)⟩
     ·exact⟨tc,td,HTC.out.trans e1.symm,h1.trans e2.symm,h2.below HK lF⟩)
    have Gm:=ah (aO.new xB 3 #[.int .i64 xu, .int .i64 xv]);have HFG:=ah (Rl (q:=q) (tq:=tq) (m:=m) (g:=g) HK Ot.out.u Ot.out.v HN.out.2.2.2.2.1 HN.out.2.2.2.2.2);clear lF LU uY HTC;go_wp2
    go_loopw [110] (λi wr=>∃j:Nat,j<=2/\i= .int .i64 (j:Nat)/\Hid (FgS (gK B u0 q tq T) g m s1 s2 j wr)/\Hid (Fr F w wr)/\Hid (aO wr xB.heap.size 3 #[.int .i64 xu, .int .i64 xv])) (λi _=>2-(intOf i).toNat)
    case atStart=>exact⟨0,ac4 _,rfl,Vk,Ig,Gm⟩
    case round=>
     obtain⟨j,hj,rfl,HT,HF,HB⟩:=hrel;have Oe:=HF.out.size;clear Vk Ig Gm;by_cases hlt:j<2
     ·have c0:=Lm (l:= [xu,xv]) HB (k:=j) hlt;have Nc:=HB.out.lt;have hT:=HFG.out j hlt _ HT;obtain⟨xj,hxj⟩:=aJ ([xu,xv][j]'hlt);rw[<-hxj]at c0 hT;have HT_:=ah hT;have qg:(j:Int)<(2:Int):=by omega
      have A8:IntKind.i64.wrap ((j:Int)+1)=((j+1:Nat):Int):=by rw[acK _ ak];rfl
      clear hT hxj HT;go_wp2_with fail
      refine aac HT_ ?_;rintro e w' ⟨rfl,h1,h2⟩;have HFn:=ah (HF.out.trans h2);have Og:=ah (h2.out.blk HB (λa=>by have:=aQ.out _ a;omega));clear h2 HF HB HT_;go_wp2
      go_roundw
      case rel=>exact⟨j+1,by omega,by go_num,h1,HFn,Og⟩
      case measure=>simp[intOf];omega
     ·obtain rfl:j=2:=by omega
      have HE:Hid (∃lu lv:List Bt,lu.map Bt.list=keep s1/\lv.map Bt.list=keep s2/\TE F B u0 q tq T (lv++(lu++g)) m (.int .i64 0) w (.returned (.int .i64 0)) _):=ah (by
       obtain⟨lu,lv,h1,h2,h3⟩:=HT.out
       exact⟨lu,lv,h1,h2,rfl,h3,HF⟩)
      clear hlt HT HF HB HFG;go_wp2;go_ret;exact HE
end
end
end Go.Proofs.YtadnmegdbllaoaaGreatDoor
namespace Sq
theorem Gn{α β:Type}{F:α->β}{l:List α}(h:l.Nodup)(hf:∀x,x∈l->∀y,y∈l->F x=F y->x=y):(l.map F).Nodup:=
 List.pairwise_map.2 (List.Pairwise.imp_of_mem (λha hb dL e=>dL (hf _ ha _ hb e)) h)
theorem zU{α:Type}{a b:List α}(ha:a.Nodup)(hb:b.Nodup)(h:∀x,x∈a ↔ x∈b):a.length=b.length:=((List.perm_ext_iff_of_nodup ha hb).2 (λ{x} =>h x)).length_eq
section
variable {f:List (List Tok)}{m s l:List Tok}{u v x y:Int}{k:Tok}
theorem Vm(h:s.Nodup):(vs s).Nodup:=by
 unfold vs;refine Gn (agh _ h) λx hx y hy e=> ?_;have h1:x.1=x.2:=by simpa using(adx.1 hx).2
 have h2:y.1=y.2:=by simpa using(adx.1 hy).2
 exact Prod.ext e (by rw[<-h1, <-h2,e])
theorem ar9:∀s:List Tok,s.length=(vs s).length+((s.filter λk=>decide (k.1<k.2)).length+(s.filter λk=>decide (k.2<k.1)).length)
 | []=>rfl
 |k::s=>by
  have ih:=ar9 s;unfold vs at ih ⊢;rw[adn]at ih ⊢;rw[agP,agP,agP,acH];by_cases h1:k.1=k.2
  ·rw[if_pos (by simpa using h1),if_neg (by simp;omega),if_neg (by simp;omega),acH];omega
  ·by_cases h2:k.1<k.2
   ·rw[if_neg (by simpa using h1),if_pos (by simpa using h2),if_neg (by simp;omega),acH];omega
   ·rw[if_neg (by simpa using h1),if_neg (by simpa using h2),if_pos (by simp;omega),acH];omega
theorem pz.half(h:pz s):(s.filter λk=>decide (k.2<k.1)).length=(s.filter λk=>decide (k.1<k.2)).length:=by
 have hn:=h.nd;have e:((s.filter λk=>decide (k.1<k.2)).map λk=>(k.2,k.1)).length=(s.filter λk=>decide (k.1<k.2)).length:=adn ..;rw[<-e];refine zU (agh _ hn) (Gn (agh _ hn) λx _ y _ e=> ?_) λk=> ?_
 ·injection e with e1 e2;exact Prod.ext e2 e1
 ·obtain⟨a,b⟩:=k;simp only[adx,agj,decide_eq_true_eq];constructor
  ·rintro⟨h1,h2⟩;exact⟨(b,a),⟨(h.rev a b h1).1,h2⟩,rfl⟩
  ·rintro⟨⟨c,d⟩,⟨h1,h2⟩,e⟩;injection e with e1 e2;subst e1 e2;exact⟨(h.rev c d h1).1,h2⟩
def Ro(m:List Tok)(l:List Int):Nat:=(m.filter λe=>decide (e.1∈l)).length
theorem TF.Yh(h:TF f m)(hs:s∈f)(hu:qI u s):(vs s).length=(members m u).length:=by
 refine zU (Vm (h.oG s hs).1.nd) ((kJ m u).imp λh e=>by omega) λx=> ?_;rw[h.wU hs hu, <-(h.oG s hs).1.Gh]
theorem TF.asa(h:TF f m)(hm:m.Nodup)(hs:s∈f)(hu:qI u s):Ro m (members m u)=(s.filter λk=>decide (k.1<k.2)).length:=by
 unfold Ro;refine zU (agh _ hm) (agh _ (h.oG s hs).1.nd) λk=> ?_;obtain⟨a,b⟩:=k;simp only[adx,decide_eq_true_eq];rw[h.wU hs hu,h.edge];constructor
 ·rintro⟨⟨h1,h2⟩,h3⟩;obtain⟨s',h4,h5⟩:=ac2.1 h2;exact⟨h.Vf h4 hs (eX h5).1 h3 ▸ h5,h1⟩
 ·rintro⟨h1,h2⟩;exact⟨⟨h2,ac2.2 ⟨s,hs,h1⟩⟩,(eX h1).1⟩
theorem TF.lens(h:TF f m)(hm:m.Nodup)(hs:s∈f)(hu:qI u s):s.length=(members m u).length+2*Ro m (members m u)/\s.length+2=3*(members m u).length/\2<=(members m u).length:=by
 have h1:=ar9 s;have h2:=(h.oG s hs).1.half;have h3:=h.Yh hs hu;have h4:=h.asa hm hs hu;have h5:=zT _ s (agA _) (h.oG s hs).1;have h6:=(h.oG s hs).2;omega
theorem LV:∀ {l:List Tok} {u v:Int},Way u l v->∀i (h:i<l.length),(i=0->l[i].1=u)/\(∀h2:i+1<l.length,l[i].2=l[i+1].1)/\(i+1=l.length->l[i].2=v)
 |k::l,u,v,⟨h1,h2⟩,0,_=>by
  refine⟨λ_=>h1,λh3=> ?_,λh3=> ?_⟩
  ·have:=(LV h2 0 (by simpa using h3)).1 rfl;simpa using this.symm
  ·obtain rfl:l= []:=adu.1 (by simp only[acH]at h3;omega);exact h2
 |k::l,u,v,⟨h1,h2⟩,i+1,h=>by
  obtain⟨_,q1,q2⟩:=LV h2 i (by simpa using h);refine⟨λe=>by omega,λh3=> ?_,λh3=> ?_⟩
  ·simpa using q1 (by simpa using h3)
  ·simpa using q2 (by simpa using h3)
theorem pz.anu(h:pz s)(i:Nat)(hi:i<s.length):s[i].2=(s[(i+1) % s.length]'(Nat.mod_lt _ (by omega))).1:=by
 obtain⟨v,hw⟩:=h.cyc;by_cases h2:i+1<s.length
 ·have e:(i+1) % s.length=i+1:=Nat.mod_eq_of_lt h2;simp only[e];exact(LV hw i hi).2.1 h2
 ·have e:(i+1) % s.length=0:=by rw[show i+1=s.length by omega];exact Nat.mod_self _
  simp only[e];rw[(LV hw i hi).2.2 (by omega),(LV hw 0 (by omega)).1 rfl]
structure RT(l:List Tok)(mem:List Int)(es:List Tok):Prop where
 one:mem.length=1->Ro es mem=0->l= []
 len:¬ (mem.length=1/\Ro es mem=0)->l.length=mem.length+2*Ro es mem
 cyc:∀i (h:i<l.length),l[i].2=(l[(i+1) % l.length]'(Nat.mod_lt _ (by omega))).1
 mem:∀k,k∈l->k.1∈mem/\k.2∈mem/\(k.1≠k.2->(min k.1 k.2,max k.1 k.2)∈es)
 nd:l.Nodup
theorem TF.rt(h:TF f m)(hm:m.Nodup)(hs:s∈f)(hu:qI u s):RT s (members m u) m:=by
 obtain⟨h1,h2,h3⟩:=h.lens hm hs hu;refine⟨λe _=>by omega,λ_=>h1,(h.oG s hs).1.anu,λk hk=> ?_,(h.oG s hs).1.nd⟩;rw[h.wU hs hu,h.wU hs hu];exact⟨(eX hk).1,(eX hk).2,λdL=>(h.acn dL).1 (ac2.2 ⟨s,hs,hk⟩)⟩
theorem TF.af0(h:TF f m)(hv:(v,v) ∉ f.flatten):RT [] (members m v) m:=by
 rw[h.alone hv]
 have he:Ro m [v]=0:=by
  unfold Ro;rw[adu,ajT];rintro⟨a,b⟩ hk hd;have e:a=v:=by simpa using hd
  subst e;exact hv (h.rev ((h.edge _ _).1 hk).2).2
 exact⟨λ_ _=>rfl,λa=>absurd ⟨rfl,he⟩ a,λi h=>absurd h (by simp),λk hk=>absurd hk aaj,ahp⟩
theorem TF.ajl(h:TF f m)(hs:s∈f)(hu:qI u s){l:List Int}(hp:l.Perm (vs s))(hl:l.Pairwise (· <= ·)):l=members m u:=by
 have hn:l.Nodup:=hp.nodup_iff.2 (Vm (h.oG s hs).1.nd);refine Ew ?_ (kJ m u) λx=> ?_
 ·exact(List.pairwise_and_iff.2 ⟨hl,hn⟩).imp fun⟨h1,h2⟩=>by omega
 ·rw[hp.mem_iff,h.wU hs hu,(h.oG s hs).1.Gh]
theorem TF.nil:TF [] []:=⟨λ_ h=>absurd h aaj,ahp,λ_ _=>⟨λh=>absurd h aaj,λh=>absurd h.2 aaj⟩⟩
theorem TF.perm{f':List (List Tok)}(h:TF f m)(hp:f.Perm f'):TF f' m:=
 ⟨λs hs=>h.oG s (hp.mem_iff.2 hs),hp.flatten.nodup_iff.1 h.nd,λx y=>by rw[h.edge,hp.flatten.mem_iff]⟩
end
end Sq
namespace Sq
section
variable {α:Type}{lt:α->Bool}{p x:α}{l acc:List α}{k:Nat}{d:Bool}
def Yi(lt:α->Bool)(p:α):List α->List α
 | []=> [p]
 |x::l=>if lt x then p::x::l else x::Yi lt p l
theorem Gp:∀l:List α,(Yi lt p l).Perm (p::l)
 | []=> .refl _
 |x::l=>by
  unfold Yi;split
  ·exact .refl _
  ·exact((Gp l).cons x).trans (.swap p x l)
end
section
variable {es:List Tok}{p x:Tok}{l:List Int}{n:Int}
def asb(a b:Tok):Bool:=decide (a.1<b.1)||decide (a.1=b.1)&&decide (a.2<b.2)
def xE(es:List Tok)(p:Tok):List Tok:=if decide (p∈es)=true then es else Yi (asb p) p es
def Ey(es:List Tok)(p:Tok):List Tok:=es.filter λx=>decide (x≠p)
theorem wW:x∈xE es p ↔ x=p\/x∈es:=by
 unfold xE;by_cases h:p∈es
 ·rw[if_pos (by simpa using h)];exact⟨.inr,λa=>a.elim (λe=>e ▸ h) id⟩
 ·rw[if_neg (by simpa using h),(Gp es).mem_iff,aah]
theorem Yj(hn:es.Nodup):(xE es p).Nodup:=by
 unfold xE;by_cases h:p∈es
 ·rw[if_pos (by simpa using h)];exact hn
 ·rw[if_neg (by simpa using h),(Gp es).nodup_iff];exact acZ.2 ⟨h,hn⟩
theorem LW:x∈Ey es p ↔ x∈es/\x≠p:=by unfold Ey;rw[adx];simp
theorem Yk(hn:es.Nodup):(Ey es p).Nodup:=agh _ hn
def Bg(u v:Int):Tok:=(min u v,max u v)
theorem LX(u v:Int):Bg u v=Bg v u:=by unfold Bg;rw[Int.min_comm,Int.max_comm]
end
end Sq
namespace Sq
section
variable {es:List Tok}{u v x y:Int}{p:Tok}
theorem kD:v∈members es u ↔ members es v=members es u:=by
 constructor
 ·intro hv
  have hu:u∈members es v:=by
   refine adr λhn=> ?_;exact kK (P:=λy=>¬y∈members es v) (λe he=>not_congr (jf es v e he)) hn v hv (fC es v)
  exact Ew (kJ es v) (kJ es u) λx=>⟨kK (jf es u) hv x,kK (jf es v) hu x⟩
 ·intro h;rw[<-h];exact fC es v
theorem Rq:v∈members es u ↔ u∈members es v:=by rw[kD,kD];exact eq_comm
theorem qO(es:List Tok)(u:Int):(members es u).Nodup:=(kJ es u).imp λh e=>by omega
theorem Ih{es':List Tok}(h:∀e,e∈es->e∈es'):∀x,x∈members es u->x∈members es' u:=
 kK (λe he=>jf es' u e (h e he)) (fC es' u)
theorem ajm{P:Int->Prop}(h:P u ↔ P v):P (Bg u v).1 ↔ P (Bg u v).2:=by
 unfold Bg;by_cases hlt:u<=v
 ·rw[show min u v=u by omega,show max u v=v by omega];exact h
 ·rw[show min u v=v by omega,show max u v=u by omega];exact h.symm
theorem af2:x∈members (xE es (Bg u v)) u ↔ x∈members es u\/x∈members es v:=by
 constructor
 ·refine kK (P:=λx=>x∈members es u\/x∈members es v) (λe he=> ?_) (.inl (fC es u)) x;rcases wW.1 he with rfl | he
  ·exact ajm (P:=λx=>x∈members es u\/x∈members es v) ⟨λ_=> .inr (fC es v),λ_=> .inl (fC es u)⟩
  ·exact or_congr (jf es u e he) (jf es v e he)
 ·have MJ:∀e,e∈es->e∈xE es (Bg u v):=λe he=>wW.2 (.inr he)
  have hv:v∈members (xE es (Bg u v)) u:=by
   have h:=jf (xE es (Bg u v)) u (Bg u v) (wW.2 (.inl rfl));obtain⟨e',he'⟩:∃e',e'=xE es (Bg u v):=⟨_,rfl⟩;rw[<-he']at h ⊢;unfold Bg at h;by_cases hlt:u<=v
   ·rw[show min u v=u by omega,show max u v=v by omega]at h;exact h.1 (fC _ u)
   ·rw[show min u v=v by omega,show max u v=u by omega]at h;exact h.2 (fC _ u)
  rintro(h | h)
  ·exact Ih MJ x h
  ·rw[<-kD.1 hv];exact Ih MJ x h
theorem af4(h:v ∉ members es u):(members (xE es (Bg u v)) u).length=(members es u).length+(members es v).length:=by
 rw[<-aag];refine zU (qO _ _) ?_ λx=>by rw[af2,aaf]
 refine acG.2 ⟨qO _ _,qO _ _,λa ha b hb e=> ?_⟩;subst e;exact h (kD.2 ((kD.1 hb).symm.trans (kD.1 ha)))
theorem Vo{lt:Tok->Bool} :∀ {l:List Tok},p ∉ l->Ey (Yi lt p l) p=l
 | [],_=>by simp[Yi,Ey]
 |x::l,h=>by
  rw[aah,not_or]at h;have h1:decide (x≠p)=true:=by simpa using λe=>h.1 e.symm
  have h2:Ey l p=l:=List.filter_eq_self.2 λy hy=>by
   have:y≠p:=λe=>h.2 (e ▸ hy);simpa using this
  unfold Yi;split
  ·unfold Ey at h2 ⊢;rw[agP,if_neg (by simp),agP,if_pos h1,h2]
  ·have h3:=Vo (lt:=lt) h.2;unfold Ey at h3 ⊢;rw[agP,if_pos h1,h3]
theorem ajn(h:p ∉ es):Ey (xE es p) p=es:=by
 unfold xE;rw[if_neg (by simpa using h)];exact Vo h
section
variable {f:List (List Tok)}{s:List Tok}
theorem TF.none_(h:TF f []):f= []:=by
 cases f with
 |nil=>rfl
 |cons s f=>
  obtain⟨hT,h2⟩:=h.oG s aae
  have au:∀k,k∈s->k.1=k.2:=λk hk=>by
   refine adr λdL=> ?_;have hf:(k.1,k.2)∈(s::f).flatten:=ac2.2 ⟨s,aae,hk⟩;exact absurd ((h.acn dL).1 hf) aaj
  obtain⟨k,hk⟩:=List.exists_mem_of_ne_nil s hT.ne;have:=zT _ s (agA _) hT
  have hv:s.length<=(vs s).length:=by
   unfold vs;rw[adn,List.filter_eq_self.2 λk hk=>by simpa using au k hk];exact agA _
  omega
end
def mn(es:List Tok)(x:Int):Int:=(members es x).headD 0
theorem Yl(es:List Tok)(x:Int):mn es x∈members es x:=by
 have h:=fC es x;unfold mn
 cases hl:members es x with
 |nil=>rw[hl]at h;exact absurd h aaj
 |cons a l=>exact aae
theorem asc(es:List Tok)(x:Int):mn es x<=x:=by
 have h:=fC es x;have hr:=kJ es x;unfold mn
 cases hl:members es x with
 |nil=>rw[hl]at h;exact absurd h aaj
 |cons a l=>
  rw[hl]at h hr;rcases aah.1 h with e | h
  ·exact Int.le_of_eq e.symm
  ·exact Int.le_of_lt ((List.pairwise_cons.1 hr).1 x h)
theorem LY(h:∀e,e∈es->0<=e.1/\0<=e.2)(hx:0<=x):∀y,y∈members es x->0<=y:=
 kK (λe he=>⟨λ_=>(h e he).2,λ_=>(h e he).1⟩) hx
def few(n:Nat)(l:List Int):Nat:=(l.filter λx=>decide (x<(n:Int))).length
def anv(es:List Tok)(n:Nat)(v:Int):Nat:=if mn es v=v then few n (members es v)else 0
def anw(es:List Tok)(n:Nat):Nat->Nat
 |0=>0
 |v+1=>anw es n v+anv es n (v:Nat)
def ints(n:Nat):List Int:=(ac9 n).map λi:Nat=>(i:Int)
theorem LZ{n:Nat} :x∈ints n ↔ 0<=x/\x<n:=by
 unfold ints;rw[agj];constructor
 ·rintro⟨i,hi,rfl⟩;have:=adq.1 hi;omega
 ·intro h;exact⟨x.toNat,adq.2 (by omega),by omega⟩
theorem Ym(n:Nat):(ints n).Nodup:=Gn List.nodup_range λx _ y _ e=>by omega
theorem ajo{n:Nat}(h:∀e,e∈es->0<=e.1/\0<=e.2)(hv:0<=v):anv es n v=(ints n).countP λx=>decide (mn es x=v):=by
 rw[List.countP_eq_length_filter];unfold anv;split
 ·rename_i hm;unfold few;refine zU (agh _ (qO es v)) (agh _ (Ym n)) λx=> ?_;simp only[adx,decide_eq_true_eq,LZ];constructor
  ·rintro⟨h1,h2⟩;refine⟨⟨LY h hv x h1,h2⟩, ?_⟩;unfold mn at hm ⊢;rw[kD.1 h1];exact hm
  ·rintro⟨⟨_,h2⟩,h3⟩;exact⟨Rq.1 (h3 ▸ Yl es x),h2⟩
 ·rename_i hm
  symm
  rw[adu,ajT];intro x _ hd;have e:mn es x=v:=by simpa using hd
  refine hm ?_;have h1:members es v=members es x:=kD.1 (e ▸ Yl es x);unfold mn at e ⊢;rw[h1];exact e
theorem PK{α:Type}{q r:α->Bool} :∀ (l:List α),(∀x,x∈l->¬ (q x=true/\r x=true))->(l.countP λx=>q x||r x)=l.countP q+l.countP r
 | [],_=>rfl
 |x::l,h=>by
  have ih:=PK l λx hx=>h x (acF _ hx);have hx:=h x aae;simp only[List.countP_cons,ih]
  cases hq:q x<;>cases hr:r x<;>simp_all<;>omega
theorem ZE{n:Nat}(h:∀e,e∈es->0<=e.1/\0<=e.2):∀v:Nat,anw es n v=(ints n).countP λx=>decide (mn es x<(v:Int))
 |0=>by
  symm
  rw[List.countP_eq_zero.2]
  ·rfl
  ·intro x hx hd;have h1:mn es x<0:=by simpa using hd
   have:=LY h (LZ.1 hx).1 _ (Yl es x);omega
 |v+1=>by
  have e:(λx=>decide (mn es x<((v+1:Nat):Int)))=λx=>decide (mn es x<(v:Int))||decide (mn es x=(v:Int)):=by
   funext x
   rw[<-Bool.decide_or];refine decide_eq_decide.2 ?_;omega
  rw[e,PK _ λx _ hh=>by simp at hh;omega, <-ZE h v, <-ajo h (by omega)];rfl
theorem ase(n:Nat)(h:∀e,e∈es->0<=e.1/\0<=e.2):anw es n n=n:=by
 rw[ZE h,List.countP_eq_length.2]
 ·unfold ints;simp
 ·intro x hx;have:=asc es x;have:=(LZ.1 hx).2;simp;omega
end
end Sq
namespace Go.Proofs.YtadnmegdbllaoaaGreatDoor
open Go.RowKit Go.Shelf Sq Tryz
section
variable {F:Nat->Prop}{B u0 q tq m k:Nat}{T:List bT->Nat->World->Prop}{S:St}{w w':World}{f g:List Bt}{es:List Tok}{u v x y:Int}
def GV(es:List Tok)(u v:Int):Int:=if yB u v≠0 then yB u v else if v∈members es u then 1 else 0
def Fe(es:List Tok)(u v:Int):List Tok:=if GV es u v=0 then xE es (Bg u v)else es
def VW(es:List Tok)(u v:Int):Int:=if yB u v≠0 then yB u v else if Bg u v∈es then 0 else 181
def YO(es:List Tok)(u v:Int):List Tok:=if VW es u v=0 then Ey es (Bg u v)else es
theorem L6(h:yB u v=0):jO u/\jO v/\u≠v:=by
 unfold yB at h;split at h
 ·split at h
  ·omega
  ·rename_i h1 h2;exact⟨h1.1,h1.2,h2⟩
 ·omega
structure P8(B u0 q tq:Nat)(T:List bT->Nat->World->Prop)(f:List Bt)(es:List Tok)(m:Nat)(w:World):Prop where
 tu:gK B u0 q tq T f m w
 tf:TF (f.map Bt.list) es
 cnt:(toks f).length<=244
 nd:es.Nodup
def TuG(B u0 q tq:Nat)(T:List bT->Nat->World->Prop)(es:List Tok)(k:Nat)(w:World):Prop:=∃f m,P8 B u0 q tq T f es m w/\4*k<=m/\(toks f).length+4*k<=244
theorem TuG.below(K:Kv F B u0 T)(h:TuG B u0 q tq T es k w)(hb:Below w.heap.size w w'):TuG B u0 q tq T es k w':=by
 obtain⟨f,m,h1,h2,h3⟩:=h;exact⟨f,m,⟨h1.tu.below K hb,h1.tf,h1.cnt,h1.nd⟩,h2,h3⟩
theorem TuG.less{k':Nat}(h:TuG B u0 q tq T es k w)(hk:k'<=k):TuG B u0 q tq T es k' w:=by
 obtain⟨f,m,h1,h2,h3⟩:=h;exact⟨f,m,h1,by omega,by omega⟩
theorem TuG.ok(h:TuG B u0 q tq T es k w):∀e,e∈es->jO e.1/\jO e.2:=fun⟨a,b⟩ he=>by
 obtain⟨f,m,h1,_⟩:=h;obtain⟨_,h3⟩:=(h1.tf.edge a b).1 he;exact h1.tu.vld (x:=(a,b)) h3
theorem ZF(h:TF (f.map Bt.list) es):jnd f u v=decide (v∈members es u):=by
 rw[ajC,decide_eq_true_iff,Jo,h.ajg];constructor
 ·rintro(e | ⟨t,ht,e1,e2⟩)
  ·exact .inl e
  ·exact .inr ⟨t.list,agj.2 ⟨t,ht,rfl⟩,(eX e1).1,(eX e2).1⟩
 ·rintro(e | ⟨s,hs,e1,e2⟩)
  ·exact .inl e
  ·have h1:=h.inV hs e1;have h2:=h.inV hs e2;obtain⟨t,ht,rfl⟩:=agj.1 hs;exact .inr ⟨t,ht,h1,h2⟩
theorem ZG(v:Int)(f:List Bt):∃ (A:List Bt) (s:List Tok) (g:List Bt),AtT v A s/\(A= []->(v,v) ∉ toks f)/\f.Perm (A++g)/\AtV v (A.map Bt.list) ((s)):=by
 by_cases hx:(v,v)∈toks f
 ·obtain⟨t,ht,hv⟩:=iP.1 hx;obtain⟨p,r,e⟩:=ado hv;obtain⟨f1,f2,rfl⟩:=ado ht;exact⟨[t],r++p,f1++f2, .inr ⟨t,p,r,rfl,e,rfl⟩,λh=>by simp at h,agE, .inr ⟨p,(v,v)::r,by simp[e],by simp⟩⟩
 ·exact⟨[], [],f, .inl ⟨rfl,rfl⟩,λ_=>hx, .refl _, .inl ⟨rfl,rfl⟩⟩
theorem anx(K:Kv F B u0 T)(h:TuG B u0 q tq T es k w)(hk:GV es u v=0->1<=k):Calls prog 11 #[.pointer (some ⟨tq,0,none⟩), .int .i64 u, .int .i64 v] w λe w'=>e= .returned (.int .i64 (GV es u v))/\TuG B u0 q tq T (Fe es u v) (if GV es u v=0 then k-1 else k) w'/\Fr F w w':=by
 obtain⟨f,m,⟨h1,h2,h5,h6⟩,h3,h4⟩:=h;by_cases hm:yB u v=0
 ·obtain⟨vu,vv,dL⟩:=L6 hm;have hj:=ZF (u:=u) (v:=v) h2;by_cases hjn:v∈members es u
  ·rw[decide_eq_true hjn]at hj;have hc:GV es u v=1:=by unfold GV;rw[if_neg (λa=>a hm),if_pos hjn]
   have he:Fe es u v=es:=by unfold Fe;rw[hc];rfl
   rw[hc,he];refine(aje K h1 hm λW hW=> ?_).mono ?_
   ·have:=LP K hW vu vv ak;rw[hj]at this;exact this
   ·rintro e w' ⟨rfl,a1,a2⟩;exact⟨rfl,⟨f,m,⟨a1,h2,h5,h6⟩,h3,h4⟩,a2⟩
  ·rw[decide_eq_false hjn]at hj;have hc:GV es u v=0:=by unfold GV;rw[if_neg (λa=>a hm),if_neg hjn]
   have he:Fe es u v=xE es (Bg u v):=by unfold Fe;rw[hc];rfl
   have vg:=hk hc;rw[hc,he];obtain⟨A,su,f1,a1,a2,a3,a4⟩:=ZG u f;obtain⟨Bv,sv,g,b1,b2,b3,b4⟩:=ZG v f1;have hp:f.Perm (A++(Bv++g)):=a3.trans (b3.append_left A)
   have VZ:∀t,t∈f->(u,u)∈t.list->(v,v)∈t.list->False:=λt ht q1 q2=>by
    have:=Jo.2 (.inr ⟨t,ht,q1,q2⟩);rw[hj]at this;exact absurd this aH
   have hbn:Bv= []->(v,v) ∉ toks f:=λe hv=>by
    rcases a1 with⟨rfl,_⟩ | ⟨t,p,r,rfl,e1,_⟩
    ·exact b2 e ((AQ a3).mem_iff.1 hv)
    ·have Oq:=(AQ a3).mem_iff.1 hv;rw[pq,aaf]at Oq;rcases Oq with Oq | Oq
     ·obtain⟨t',ht',hv3⟩:=iP.1 Oq;obtain rfl:=acI.1 ht';exact VZ t' (a3.mem_iff.2 aH) (by rw[e1];simp) hv3
     ·exact b2 e Oq
   have NZ:∀a b:Int,(a=u/\b=v)\/(a=v/\b=u)->(a,b) ∉ toks f:=λa b VG hm=>by
    obtain⟨s,hs,RU⟩:=ac2.1 hm;have i1:=h2.inV hs (eX RU).1;have i2:=h2.inV hs (eX RU).2;obtain⟨t,ht,rfl⟩:=agj.1 hs;rcases VG with⟨rfl,rfl⟩ | ⟨rfl,rfl⟩
    ·exact VZ t ht i1 i2
    ·exact VZ t ht i2 i1
   have H:LkH f A Bv g m u v su sv:=⟨by omega,vu,vv,dL,hp,a1,b1,a2,hbn,NZ u v (.inl ⟨rfl,rfl⟩),NZ v u (.inr ⟨rfl,rfl⟩),by omega⟩;have hlen:=H.num.1;have la:=a1.len;have lb:=b1.len
   have htf:∀t':Bt,t'.list=(u,u)::su++(u,v)::((v,v)::sv++ [(v,u)])->TF ((t'::g).map Bt.list) (xE es (Bg u v)):=λt' ht'=>by
    rw[List.map_cons,ht'];refine h2.link dL (A:=A.map Bt.list) (B:=Bv.map Bt.list) (g:=g.map Bt.list) ?_ a4 b4 (λe=>a2 (agd.1 e)) (λe=>hbn (agd.1 e)) ?_ ?_
    ·rw[<-adt, <-adt];exact hp.map _
    ·intro s hs i1 i2;have q1:=h2.inV hs i1;have q2:=h2.inV hs i2;obtain⟨t,ht,rfl⟩:=agj.1 hs;exact VZ t ht q1 q2
    ·intro e;exact wW
   refine(ajf K h1 H λW hW=> ?_).mono ?_
   ·have:=LP K hW vu vv ak;rw[hj]at this;exact this
   ·rintro e w' ⟨t',m',c1,c2,rfl,c3,c4⟩
    have hn:(toks (t'::g)).length<=(toks f).length+4:=by
     rw[bF,aag,c1];simp only[aag,acH,List.length_nil];omega
    exact⟨rfl,⟨t'::g,m',⟨c3,htf t' c1,by omega,Yj h6⟩,by rw[if_pos rfl];omega,by rw[if_pos rfl];omega⟩,c4⟩
 ·have hc:GV es u v=yB u v:=by unfold GV;rw[if_pos hm]
  have he:Fe es u v=es:=by unfold Fe;rw[hc,if_neg hm]
  rw[hc,he,if_neg hm];refine(ajd K h1 hm).mono ?_;rintro e w' ⟨rfl,a1,a2⟩;exact⟨rfl,⟨f,m,⟨a1,h2,h5,h6⟩,h3,h4⟩,a2⟩
theorem Vp(s:List Tok):(keep s).flatten.length<=s.length:=by
 unfold keep;split<;>simp
theorem asf(K:Kv F B u0 T)(h:TuG B u0 q tq T es k w):Calls prog 10 #[.pointer (some ⟨tq,0,none⟩), .int .i64 u, .int .i64 v] w λe w'=>e= .returned (.int .i64 (VW es u v))/\TuG B u0 q tq T (YO es u v) k w'/\Fr F w w':=by
 obtain⟨f,m,⟨h1,h2,h5,h6⟩,h3,h4⟩:=h;by_cases hm:yB u v=0
 ·obtain⟨vu,vv,dL⟩:=L6 hm;by_cases pW:Bg u v∈es
  ·have hc:VW es u v=0:=by unfold VW;rw[if_neg (λa=>a hm),if_pos pW]
   have he:YO es u v=Ey es (Bg u v):=by unfold YO;rw[hc];rfl
   rw[hc,he];obtain⟨s,g0,Wi,p,c,r,hs⟩:=h2.at_ dL ((h2.acn dL).2 pW);obtain⟨t,ht,hts⟩:=agj.1 (Wi.mem_iff.2 aae);obtain⟨f1,f2,hf⟩:=ado ht;obtain⟨g,hg⟩:=aJ (f1++f2);have hp:f.Perm (t::g):=by rw[hf,hg];exact agE
   have Cb:(f.map Bt.list).Perm (t.list::g.map Bt.list):=hp.map _;have hT:pz t.list:=(h2.oG _ (agj.2 ⟨t,ht,rfl⟩)).1;have qP:(toks f).length=t.list.length+(toks g).length:=by rw[(AQ hp).length_eq,bF,aag]
   rw[<-hts]at hs
   have hH:∃ (x y:Tok) (su sv:List Tok),CtH t u v x y p c r su sv/\∀lu lv:List Bt,lu.map Bt.list=keep su->lv.map Bt.list=keep sv->TF ((lv++(lu++g)).map Bt.list) (Ey es (Bg u v))/\(toks (lv++(lu++g))).length<=(toks f).length:=by
    have hlen:∀lu lv:List Bt,∀su sv:List Tok,su.length+sv.length<=t.list.length->lu.map Bt.list=keep su->lv.map Bt.list=keep sv->(toks (lv++(lu++g))).length<=(toks f).length:=λlu lv su sv hl e1 e2=>by
     rw[pq,pq,aag,aag];have k1:(toks lu).length<=su.length:=by unfold toks;rw[e1];exact Vp su
     have k2:(toks lv).length<=sv.length:=by unfold toks;rw[e2];exact Vp sv
     omega
    have Gv:t.cnt<=249:=by rw[Bt.dU];omega
    rcases hs with hs | hs
    ·obtain⟨_,_,c1,c2,_⟩:=Et (hs ▸ hT) dL;refine⟨(u,v),(v,u),p++r,c,⟨hs, .inl ⟨rfl,rfl⟩, .inl ⟨rfl,rfl⟩,c2,c1,Gv⟩,λlu lv e1 e2=>⟨?_,hlen lu lv _ _ (by rw[hs];simp only[aag,acH];omega) e1 e2⟩⟩;rw[adt,adt,e1,e2];exact h2.cut Cb hs dL λe=>LW
    ·obtain⟨_,_,c1,c2,_⟩:=Et (hs ▸ hT) (Ne.symm dL);refine⟨(v,u),(u,v),c,p++r,⟨hs, .inr ⟨rfl,rfl⟩, .inr ⟨rfl,rfl⟩,c1,c2,Gv⟩,λlu lv e1 e2=>⟨?_,hlen lu lv _ _ (by rw[hs];simp only[aag,acH];omega) e1 e2⟩⟩;rw[adt,adt,e1,e2];have h7:=h2.cut Cb hs (Ne.symm dL) (m':=Ey es (Bg u v)) λe=>by rw[LX];exact LW
     refine h7.perm ?_;rw[<-ac8, <-ac8];exact List.perm_append_comm.append_right _
   obtain⟨x,y,su,sv,H,dM⟩:=hH;refine(anq K (h1.perm hp) hm H).mono ?_;rintro e w' ⟨lu,lv,e1,e2,rfl,a1,a2⟩;obtain⟨d1,d2⟩:=dM lu lv e1 e2;exact⟨rfl,⟨_,m,⟨a1,d1,by omega,Yk h6⟩,h3,by omega⟩,a2⟩
  ·have hc:VW es u v=181:=by unfold VW;rw[if_neg (λa=>a hm),if_neg pW]
   have he:YO es u v=es:=by unfold YO;rw[hc];rfl
   rw[hc,he];refine(anp K h1 hm ⟨vu,vv⟩ λhx=>pW ((h2.acn dL).1 hx)).mono ?_;rintro e w' ⟨rfl,a1,a2⟩;exact⟨rfl,⟨f,m,⟨a1,h2,h5,h6⟩,h3,h4⟩,a2⟩
 ·have hc:VW es u v=yB u v:=by unfold VW;rw[if_pos hm]
  have he:YO es u v=es:=by unfold YO;rw[hc,if_neg hm]
  rw[hc,he];refine(ano K h1 hm).mono ?_;rintro e w' ⟨rfl,a1,a2⟩;exact⟨rfl,⟨f,m,⟨a1,h2,h5,h6⟩,h3,h4⟩,a2⟩
end
end Go.Proofs.YtadnmegdbllaoaaGreatDoor
namespace Sq
structure acv(es:List Tok)(v:Int)(ok:Prop)(l:List Tok):Prop where
 no:¬ok->l= []
 rt:ok->RT l (members es v) es
 len:l.length<=244
 all:ok->∀z:List Int,z.Perm (if vs l= []then [v]else vs l)->z.Pairwise (· <= ·)->z=members es v
section
variable {f:List (List Tok)}{es s:List Tok}{u v:Int}
theorem TF.wk(h:TF f es)(hn:es.Nodup)(hs:s∈f)(hk:(v,v)∈s)(hl:s.length<=244){ok:Prop}(ho:ok):acv es v ok s:=by
 have hu:=(eX hk).1;refine⟨λa=>absurd ho a,λ_=>h.rt hn hs hu,hl,λ_ z hp hz=> ?_⟩
 have dL:vs s≠ []:=λe=>by
  have:=Gg.2 hk;rw[e]at this;exact aaj this
 rw[if_neg dL]at hp;exact h.ajl hs hu hp hz
theorem TF.af5(h:TF f es)(hv:(v,v) ∉ f.flatten){ok:Prop} :acv es v ok []:=by
 refine⟨λ_=>rfl,λ_=>h.af0 hv,ac4 _,λ_ z hp _=> ?_⟩;have Gu:z.Perm [v]:=by simpa[vs]using hp
 rw[h.alone hv];exact List.perm_singleton.1 Gu
theorem ajp{ok:Prop}(ho:¬ok):acv es v ok []:=⟨λ_=>rfl,λa=>absurd a ho,ac4 _,λa=>absurd a ho⟩
end
end Sq
namespace Go.Proofs.YtadnmegdbllaoaaGreatDoor
open Go.RowKit Go.Shelf Sq Tryz
section
variable {F:Nat->Prop}{B u0 q tq m k:Nat}{T:List bT->Nat->World->Prop}{S:St}{w w':World}{f g:List Bt}{es:List Tok}{u v x y:Int}{t:Bt}
def QE(F:Nat->Prop)(B u0 q tq:Nat)(T:List bT->Nat->World->Prop)(f:List Bt)(es:List Tok)(m:Nat)(x:Value)(w:World)(e:Ending)(w':World):Prop:=e= .returned x/\P8 B u0 q tq T f es m w'/\Fr F w w'
def vC(v:Int):Int:=if jO v then 0 else 30
def vC2(u v:Int):Int:=if jO u/\jO v then 0 else 30
def szN(es:List Tok)(v:Int):Int:=if jO v then((members es v).length:Int)else 0
theorem P8.with_(h:P8 B u0 q tq T f es m w){x:Value}{e:Ending}(he:e= .returned x)(h1:gK B u0 q tq T f m w')(hf:Fr F w w'):QE F B u0 q tq T f es m x w e w':=⟨he,⟨h1,h.tf,h.cnt,h.nd⟩,hf⟩
theorem P8.asg(h:P8 B u0 q tq T f es m w)(ht:t∈f):t.cnt<=249:=acN (wV ht) (by have:=h.cnt;omega)
theorem P8.ajq(_:P8 B u0 q tq T f es m w)(ht:t∈f):t.list∈f.map Bt.list:=agj.2 ⟨t,ht,rfl⟩
theorem P8.ajr(h:P8 B u0 q tq T f es m w)(v:Int):(members es v).length<=244:=by
 by_cases hx:(v,v)∈toks f
 ·obtain⟨t,ht,hxt⟩:=iP.1 hx;rw[<-h.tf.Yh (h.ajq ht) (show qI v t.list from(eX hxt).1)];have h1:(vs t.list).length<=t.list.length:=by unfold vs;rw[adn];exact ajA _ _
  rw[<-Bt.dU]at h1;exact acN h1 (acN (wV ht) h.cnt)
 ·rw[h.tf.alone hx];exact Nat.le_of_ble_eq_true rfl
theorem anz(K:Kv F B u0 T)(h:P8 B u0 q tq T f es m w)(v:Int):Calls prog 13 #[.pointer (some ⟨tq,0,none⟩), .int .i64 v] w (QE F B u0 q tq T f es m (.tuple #[.int .i64 (szN es v), .int .i64 (vC v)]) w):=by
 unfold szN vC;by_cases hv:jO v
 ·rw[if_pos hv,if_pos hv];by_cases hx:(v,v)∈toks f
  ·obtain⟨t,ht,hxt⟩:=iP.1 hx
   have he:(t.list.length+2) / 3=(members es v).length:=by
    have h1:=h.tf.Yh (h.ajq ht) (show qI v t.list from(eX hxt).1);have h2:=zT _ t.list aK (h.tf.oG _ (h.ajq ht)).1;omega
   refine(anl K h.tu hv ht hxt (h.asg ht)).mono ?_;rintro e w' ⟨rfl,a1,a2⟩;exact h.with_ (by rw[he]) a1 a2
  ·obtain⟨S,h1,h2⟩:=h.tu;rw[h.tf.alone hx];refine(ab5 K h1 hv (h2.none_.2 hx)).mono ?_;rintro e w' ⟨rfl,a1,a2⟩;exact h.with_ rfl ⟨S,a1,h2⟩ a2
 ·obtain⟨S,h1,h2⟩:=h.tu;rw[if_neg hv,if_neg hv];refine(afA K h1 hv).mono ?_;rintro e w' ⟨rfl,a1,a2⟩;exact h.with_ rfl ⟨S,a1,h2⟩ a2
theorem af6(K:Kv F B u0 T)(h:P8 B u0 q tq T f es m w)(u v:Int):Calls prog 25 #[.pointer (some ⟨tq,0,none⟩), .int .i64 u, .int .i64 v] w (QE F B u0 q tq T f es m (.tuple #[.bool (decide ((jO u/\jO v)/\v∈members es u)), .int .i64 (vC2 u v)]) w):=by
 unfold vC2;by_cases hv:jO u/\jO v
 ·have hd:decide ((jO u/\jO v)/\v∈members es u)=jnd f u v:=by
   rw[ZF h.tf];exact decide_eq_decide.2 ⟨λa=>a.2,λa=>⟨hv,a⟩⟩
  rw[if_pos hv,hd];refine(LP K h.tu hv.1 hv.2 (by have:=h.cnt;omega)).mono ?_;rintro e w' ⟨rfl,a1,a2⟩;exact h.with_ rfl a1 a2
 ·obtain⟨S,h1,h2⟩:=h.tu;rw[if_neg hv,decide_eq_false λa=>hv a.1];refine(ab4 K h1 hv).mono ?_;rintro e w' ⟨rfl,a1,a2⟩;exact h.with_ rfl ⟨S,a1,h2⟩ a2
theorem anA(K:Kv F B u0 T)(h:P8 B u0 q tq T f es m w)(u v:Int):Calls prog 26 #[.pointer (some ⟨tq,0,none⟩), .int .i64 u, .int .i64 v] w (QE F B u0 q tq T f es m (.tuple #[.bool (decide ((jO u/\jO v)/\u≠v/\Bg u v∈es)), .int .i64 (vC2 u v)]) w):=by
 by_cases hv:(jO u/\jO v)/\u≠v
 ·have hd:decide ((jO u/\jO v)/\u≠v/\Bg u v∈es)=decide ((u,v)∈toks f):=decide_eq_decide.2 ⟨λa=>(h.tf.acn hv.2).2 a.2.2,λa=>⟨hv.1,hv.2,(h.tf.acn hv.2).1 a⟩⟩;unfold vC2;rw[if_pos hv.1,hd];refine(ank K h.tu hv.1 hv.2).mono ?_;rintro e w' ⟨rfl,a1,a2⟩;exact h.with_ rfl a1 a2
 ·obtain⟨S,h1,h2⟩:=h.tu;rw[decide_eq_false λa=>hv ⟨a.1,a.2.1⟩];refine(ai2 K h1 (adr λhn=>hv ⟨adr λa=>hn (.inl a),λa=>hn (.inr a)⟩)).mono ?_;rintro e w' ⟨rfl,a1,a2⟩;exact h.with_ rfl ⟨S,a1,h2⟩ a2
theorem af7(K:Kv F B u0 T)(h:P8 B u0 q tq T f es m w)(v:Int):Calls prog 27 #[.pointer (some ⟨tq,0,none⟩), .int .i64 v] w λe w'=>∃ (l:List Tok) (A:Option Addr) (c:Nat),acv es v (jO v) l/\LO tokE 71 w' w.heap.size (.slice A l.length c) l/\QE F B u0 q tq T f es m (.tuple #[.slice A l.length c, .int .i64 (vC v)]) w e w':=by
 unfold vC;by_cases hv:jO v
 ·rw[if_pos hv];by_cases hx:(v,v)∈toks f
  ·obtain⟨t,ht,hxt⟩:=iP.1 hx;refine(anm K h.tu hv ht hxt (h.asg ht)).mono ?_;rintro e w' ⟨A,c,rfl,a0,a1,a2⟩;exact⟨t.list,A,c,h.tf.wk h.nd (h.ajq ht) hxt (by rw[<-Bt.dU];exact acN (wV ht) h.cnt) hv,a0,h.with_ rfl a1 a2⟩
  ·obtain⟨S,h1,h2⟩:=h.tu;refine(afB K h1 hv (h2.none_.2 hx)).mono ?_;rintro e w' ⟨rfl,a1,a2⟩;exact⟨[],none,0,h.tf.af5 hx,LO.nil_ _ _,h.with_ rfl ⟨S,a1,h2⟩ a2⟩
 ·obtain⟨S,h1,h2⟩:=h.tu;rw[if_neg hv];refine(ai3 K h1 hv).mono ?_;rintro e w' ⟨rfl,a1,a2⟩;exact⟨[],none,0,ajp hv,LO.nil_ _ _,h.with_ rfl ⟨S,a1,h2⟩ a2⟩
end
end Go.Proofs.YtadnmegdbllaoaaGreatDoor
namespace Go.Proofs.YtadnmegdbllaoaaGreatDoor
open Go.RowKit Go.Shelf Tryz
def TKv(n M:Nat)(a:Nk)(es:List bT)(m:Nat)(w:World):Prop:=∃tok,TAt n a es tok w/\tok+m<=M
theorem akE{n a b:Nat}(h:Rm n b)(VG:a<=b):Rm n a:=by unfold Rm at *;omega
theorem anB{n M:Nat}{a:Nk}(ha:a.t<a.B/\a.m<a.B/\a.B<=a.u)(hr:Rm n M):Kv a.F (a.u+1) a.u (TKv n M a) where
 low:=λk hk=>by rcases hk with(rfl | rfl) | rfl<;>omega
 size:=fun⟨tok,⟨r,s,i,h⟩,_⟩=>h.on.self.lt
 up:=λ{es m w w' S'} ⟨tok,⟨r,s,i,h⟩,hm⟩ hf hS=>⟨tok,⟨r,s,i,⟨⟨h.abK.up h.on.tm hf λk hk=>⟨by have:=(hS k hk).1;omega,(hS k hk).2⟩,hf.blk h.on.self λhk=>by have:=(hS _ hk).1;omega,h.on.hu⟩,h.rt,h.mine,h.tl⟩⟩,hm⟩
 get:=λk ⟨tok,⟨r,s,i,h⟩,hm⟩=>(aiC h k).mono λe w' ⟨h1,h2,h3⟩=>⟨h1,⟨tok,⟨r,s,i,h2⟩,hm⟩,h3.more λ_=> .inl⟩
 put:=λk v ⟨tok,h,hm⟩ Yx=>(aiB h Yx (akE hr ak)).mono λe w' ⟨h1,h2,h3⟩=>⟨h1,⟨_,h2,by omega⟩,h3⟩
 del:=λk ⟨tok,h,hm⟩=>(aiD h k (akE hr ak)).mono λe w' ⟨h1,h2,h3⟩=>⟨h1,⟨tok,h2,hm⟩,h3⟩
end Go.Proofs.YtadnmegdbllaoaaGreatDoor
namespace Go.Proofs.YtadnmegdbllaoaaGreatDoor
open Go.RowKit Go.Shelf Sq Tryz
theorem af8(u:Nat)(w:World):Calls prog 61 #[.pointer (some ⟨u,0,none⟩)] w λe w'=>e= .returned (.pointer (some ⟨w.heap.size,0,none⟩))/\w'=w.alloc (.cells (IV u) 129):=by
 go_enter func61,ntmps61
 go_wp2;go_ret;exact⟨rfl,rfl⟩
theorem acw(u:Nat)(w:World):Calls prog 32 #[.pointer (some ⟨u,0,none⟩)] w λe w'=>e= .returned (.pointer (some ⟨w.heap.size+1,0,none⟩))/\w'=(w.alloc (.cells (IV u) 129)).alloc (.cells #[.pointer (some ⟨w.heap.size,0,none⟩)] 75):=by
 have hS:=ah (af8 u w);go_enter func32,ntmps32
 go_wp2_with fail
 refine aac hS ?_;rintro e w1 ⟨rfl,rfl⟩;go_wp2;go_ret;exact⟨by simp,by simp⟩
structure lV(base n M:Nat)(a:Nk)(tq:Nat)(es:List Tok)(k:Nat)(w:World):Prop where
 g:∃q,TuG (a.u+1) a.u q tq (TKv n M a) es k w
 kv:Kv a.F (a.u+1) a.u (TKv n M a)
 far:∀x,a.F x->base<=x
 tq:base<=tq
 size:base<=w.heap.size
section
variable {base n M tq k:Nat}{a:Nk}{es:List Tok}{w w':World}
theorem lV.below(h:lV base n M a tq es k w)(hb:Below w.heap.size w w'):lV base n M a tq es k w':=by
 obtain⟨q,hg⟩:=h.g;exact⟨⟨q,hg.below h.kv hb⟩,h.kv,h.far,h.tq,acN h.size hb.size⟩
theorem lV.less{k':Nat}(h:lV base n M a tq es k w)(hk:k'<=k):lV base n M a tq es k' w:=by
 obtain⟨q,hg⟩:=h.g;exact⟨⟨q,hg.less hk⟩,h.kv,h.far,h.tq,h.size⟩
theorem lV.ok(h:lV base n M a tq es k w):∀e,e∈es->jO e.1/\jO e.2:=by
 obtain⟨q,hg⟩:=h.g;exact hg.ok
theorem lV.ajr(h:lV base n M a tq es k w)(v:Int):(members es v).length<=244:=by
 obtain⟨q,f,m,h1,_⟩:=h.g;exact h1.ajr v
theorem lV.mok(h:lV base n M a tq es k w){v:Int}(hv:jO v):∀y,y∈members es v->jO y:=
 kK (λe he=>⟨λ_=>(h.ok e he).2,λ_=>(h.ok e he).1⟩) hv
theorem anC(h:aiw n a [] 0 w)(hF:∀x,a.F x->base<=x)(hb:base<=w.heap.size)(hr:Rm n M)(hk:4*k<=M/\4*k<=244)(hu:a.u<w.heap.size)(ho:a.t<a.B/\a.m<a.B/\a.B<=a.u):lV base n M a (w.heap.size+1) [] k ((w.alloc (.cells (IV a.u) 129)).alloc (.cells #[.pointer (some ⟨w.heap.size,0,none⟩)] 75)):=by
 have K:Kv a.F (a.u+1) a.u (TKv n M a):=anB ho hr;have b1:=(aai w.heap.size w).alloc aK (.cells (IV a.u) 129);have jr:=aO.new w 129 (IV a.u);have mW:=jr.alloc (.cells #[.pointer (some ⟨w.heap.size,0,none⟩)] 75);have Aa:=aO.new (w.alloc (.cells (IV a.u) 129)) 75 #[.pointer (some ⟨w.heap.size,0,none⟩)];rw[aad]at Aa;have b2:=b1.alloc b1.size (.cells #[.pointer (some ⟨w.heap.size,0,none⟩)] 75);have hT:TKv n M a [] M w:=⟨0,h.at_,by omega⟩;have Ba:=K.below hT b2;refine⟨⟨w.heap.size, [],M,⟨⟨λ_=>none,⟨⟨mW,hu, [],Ba,aiG⟩,Aa,Nat.lt_succ_self _⟩,⟨λt ht=>absurd ht aaj,ahp,λx n hx=>(by cases hx)⟩⟩,TF.nil,ac4 _,ahp⟩,hk.1, ?_⟩,K,hF,by omega,by simp;omega⟩;show 0+4*k<=244;omega
def af9(base n M k:Nat)(w:World)(e:Ending)(w':World):Prop:=∃ (a:Nk) (tq:Nat),e= .returned (.tuple #[.pointer (some ⟨tq,0,none⟩), .pointer (some ⟨a.u,0,none⟩)])/\lV base n M a tq [] k w'/\Below base w w'
theorem L8(s:Int)(w:World)(hr:Rm (uO s) M)(hk:4*k<=M/\4*k<=244):Calls prog 9 #[.int .i64 s] w (af9 w.heap.size (uO s) M k w):=by
 have hD:=aS (ahY s w);have hn:uO s<=16384:=by unfold uO;omega
 generalize uO s=n at*;have HN:=ah hn;have HR:=ah hr;clear hn hr;go_enter func9,ntmps9
 go_wp2_with fail
 refine hD.out.mono ?_;rintro e w1 ⟨d,rfl,hd,bD⟩;have HF:=ah (aep d n w1 hd);have zZ:=ah bD;clear hd bD;go_wp2_with fail
 refine HF.out.mono ?_;rintro e w2 ⟨f,rfl,hf,bK⟩;have HA:=ah (aer f n none 0 [] 2 HN w2 hf RS.nil_ (ac4 _));have qj:=ah (zZ.out.trans (bK.mono zZ.out.size));clear hf bK;go_wp2_with fail
 refine aac HA ?_;rintro e w3 ⟨t,m,rfl,htm,hT,dJ⟩;have hB3:=qj.out.trans (dJ.mono qj.out.size);have lI:t<w3.heap.size:=by obtain⟨_,⟨v,h2,_⟩,_⟩:=hT;exact h2.lt
 have YF:m<w3.heap.size:=by obtain⟨_,_,es,c,h2,_⟩:=hT;exact(ak1.1 h2).1
 have HC:=ah (abI (KC lI YF f n) 0 0 Tp.none_ w3 (abJ HN lI YF aK hT))
 have fE:=ah (show ∀u w4,On (λk=>k=t\/k=m) w3.heap.size t u (yL w3.heap.size t m f n) 0 0 0 Tp.none_ w4->w3.heap.size<=u->Below w3.heap.size w3 w4->af9 w.heap.size n M k w (.returned (.tuple #[.pointer (some ⟨w4.heap.size+1,0,none⟩), .pointer (some ⟨u,0,none⟩)])) ((w4.alloc (.cells (IV u) 129)).alloc (.cells #[.pointer (some ⟨w4.heap.size,0,none⟩)] 75))from λu w4 ho hu hb=>by
  have b4:=hB3.trans (hb.mono hB3.size)
  have hFx:∀x,Nk.F ⟨w3.heap.size,t,m,f,u⟩ x->w.heap.size<=x:=λx hx=>by
   rcases hx with(rfl | rfl) | rfl
   ·exact acN qj.out.size htm.1
   ·exact acN qj.out.size htm.2
   ·exact acN hB3.size hu
  have Dq:aiw n ⟨w3.heap.size,t,m,f,u⟩ [] 0 w4:=⟨0,Tp.none_, [],⟨ho, .inl ⟨rfl,rfl,rfl⟩,λx=>by simp[Tp.none_],ac4 _⟩,ac4 _⟩;have hul:u<w4.heap.size:=ho.self.lt;have ET:=anC Dq hFx b4.size HR hk hul ⟨lI,YF,hu⟩;have b5:=(b4.alloc b4.size (.cells (IV u) 129))
  exact⟨⟨w3.heap.size,t,m,f,u⟩,_,rfl,ET,b5.alloc b5.size _⟩)
 clear hT dJ hB3 htm lI YF HR HN;go_wp2_with fail
 refine HC.out.mono ?_;rintro e w4 ⟨u,rfl,ho,hu,hb⟩;have HE:=ah (fE.out u w4 ho hu hb);have HTN:=ah (acw u w4);clear ho hu hb fE HC;go_wp2_with fail
 refine aac HTN ?_;rintro e w5 ⟨rfl,rfl⟩;go_wp2;go_ret2;exact HE
end
end Go.Proofs.YtadnmegdbllaoaaGreatDoor
namespace Go.Proofs.YtadnmegdbllaoaaGreatDoor
open Go.RowKit Go.Shelf Tryz
attribute [local go_sem] Oper.semAt_some
end Go.Proofs.YtadnmegdbllaoaaGreatDoor
namespace Go.Proofs.YtadnmegdbllaoaaGreatDoor
open Go.RowKit Go.Sort Go.Shelf Tryz
theorem PL(l:List Int):fZ.cells l=l.map (acS .i64):=by
 induction l with
 |nil=>rfl
 |cons x l ih=>rw[Enc.lK,ih];rfl
theorem acy{w:World}{base g cap n:Nat}{l:List Int}(h:w.ownsRow base 3 1 (.slice (some ⟨g,0,none⟩) n cap) n (l.map (acS .i64))):Holds (acS .i64) w g 0 l.toArray:=by
 have hn:n=l.length:=by have:=h.1;simpa using this.symm
 intro j hj;have hj':j<l.length:=by simpa using hj
 refine⟨?_, ?_⟩
 ·rw[Nat.zero_add,h.cellAt j ak];simp[hj']
 ·rw[Nat.zero_add];exact h.frozenAt j
theorem ajs{w:World}{base g cap n:Nat}{l:List Int}(h:w.ownsRow base 3 1 (.slice (some ⟨g,0,none⟩) n cap) n (l.map (acS .i64)))(q:Nat)(d:Array Int)(os:Array Obj)(hd:d.size=l.length):
  (grow (putRow (acS .i64) (Sort.ahead w q) g 0 d) os).ownsRow base 3 1 (.slice (some ⟨g,0,none⟩) n cap) n (d.toList.map (acS .i64))/\w.grownBy (grow (putRow (acS .i64) (Sort.ahead w q) g 0 d) os) (some g):=by
 have hn:n=l.length:=by have:=h.1;simpa using this.symm
 rcases h.2 with⟨hv,_⟩ | ⟨g',cap',cur,hv,hb,hh,hc,hm,hs,ht⟩
 ·cases hv
 ·injection hv with e1 e2 e3;injection e1 with e1;injection e1 with e1;subst e1 e3
  have hlt:g<w.heap.size:=by
   rcases Nat.lt_or_ge g w.heap.size with hlt | yh
   ·exact hlt
   ·rw[Array.getElem?_eq_none yh]at hh;cases hh
  have agC:(grow (putRow (acS .i64) (Sort.ahead w q) g 0 d) os).heap[g]? =some (.cells (putCells (acS .i64) 0 d cur) 3 (0,0)):=by
   rw[heap_grow_old _ _ (by simpa using hlt)];unfold putRow mapBlock;simp only[akI,heap_ahead,if_true,hh];rfl
  refine⟨⟨by simp[hd,hn], .inr ⟨g,cap,_,rfl,hb,agC,hc,hm,by unfold putCells;simpa using hs, ?_⟩⟩, ?_⟩
  ·apply List.ext_getElem?;intro t;by_cases htk:t<n*1
   ·rw[List.getElem?_take_of_lt htk];have htc:t<cur.size:=by omega
    have htd:t<d.size:=by omega
    unfold putCells;simp only[Array.getElem?_toList,Array.getElem?_mapIdx];rw[Array.getElem?_eq_getElem htc];simp[htd]
   ·rw[akK (by simp;omega),akK (by simp;omega)]
  ·refine⟨rfl,rfl,rfl,by simp,λi hi dL=> ?_⟩;rw[heap_grow_old _ _ (by simpa using hi)];unfold putRow mapBlock;have:g≠i:=λh=>dL (by rw[h]);simp[akI,this]
def zV(zs:List Int):List Int:=zs.mergeSort λx y=>decide (x<=y)
theorem AU(zs:List Int):(zV zs).length=zs.length:=by unfold zV;rw[List.length_mergeSort]
theorem PN{base:Nat}{v:Value}{zs:List Int}{w:World}(ho:LO fZ 3 w base v zs)(hl:zs.length<=100000):
  Calls prog 42 #[v] w λe w'=>e= .returned (.tuple #[])/\LO fZ 3 w' base v (zV zs)/\Below base w w':=by
 have dh:w.ownsRow base 3 1 v zs.length (zs.map (acS .i64)):=by have h:=ho.raw rfl (s:=1) rfl;rwa [PL]at h
 rcases dh.2 with⟨rfl,h0⟩ | ⟨g,cap,cur,rfl,hb,hh,hc⟩
 ·have qh:zs= []:=List.eq_nil_of_length_eq_zero h0;subst qh;refine aac (AnyM.slices_Sort_int_none Tryz.sortC none 0 w) ?_;rintro e w' ⟨rfl,rfl⟩;exact⟨rfl,by rw[show zV []= []by simp[zV]];exact ho,aU⟩
 ·have hlt:g<w.heap.size:=(dh.lt g rfl).2;refine aac (AnyM.slices_Sort_int Tryz.sortC g 0 cap zs w (acy dh) hlt ak) ?_;rintro e w' ⟨rfl,n,os,rfl⟩;obtain⟨h1,h2⟩:=ajs dh n (zs.mergeSort λx y=>decide (x<=y)).toArray os aH;refine⟨rfl, ?_,aU.grown h2 ak (λk e=>by cases e;exact hb)⟩;have h1:World.ownsRow _ base 3 1 (.slice (some ⟨g,0,none⟩) zs.length cap) zs.length ((zV zs).map (acS .i64)):=h1;rw[<-PL, <-AU]at h1;unfold LO;rw[AU]at h1 ⊢;exact h1
end Go.Proofs.YtadnmegdbllaoaaGreatDoor
namespace Go.Proofs.YtadnmegdbllaoaaGreatDoor
open Go.RowKit Go.Shelf Sq Tryz
theorem Ez(zs:List Int):(zV zs).Perm zs/\(zV zs).Pairwise (· <= ·):=by
 unfold zV;refine⟨List.mergeSort_perm _ _, ?_⟩;have h:=List.pairwise_mergeSort (le:=λx y:Int=>decide (x<=y)) (λa b c h1 h2=>by simp at *;omega) (λa b=>by simp;omega) zs;exact h.imp λh=>by simpa using h
def Np(es:List Tok)(v:Int):List Int:=if jO v then members es v else []
section
variable {F:Nat->Prop}{B u0 q tq m:Nat}{T:List bT->Nat->World->Prop}{w w':World}{f:List Bt}{es:List Tok}
theorem P8.below(K:Kv F B u0 T)(h:P8 B u0 q tq T f es m w)(hb:Below w.heap.size w w'):P8 B u0 q tq T f es m w':=⟨h.tu.below K hb,h.tf,h.cnt,h.nd⟩
theorem ajt(l:List Tok)(x:Tok):vs (l++ [x])=vs l++(if x.1=x.2 then [x.1]else []):=by
 rw[Ri];unfold vs;by_cases h:x.1=x.2
 ·rw[if_pos h,agP,if_pos (by simpa using h)];rfl
 ·rw[if_neg h,agP,if_neg (by simpa using h)];rfl
theorem akF(l:List Tok):(vs l).length<=l.length:=by unfold vs;rw[adn];exact ajA _ _
theorem acz(K:Kv F B u0 T)(h:P8 B u0 q tq T f es m w)(v:Int):Calls prog 12 #[.pointer (some ⟨tq,0,none⟩), .int .i64 v] w λe w'=>∃ (A:Option Addr) (c:Nat),LO fZ 3 w' w.heap.size (.slice A (Np es v).length c) (Np es v)/\QE F B u0 q tq T f es m (.tuple #[.slice A (Np es v).length c, .int .i64 (vC v)]) w e w':=by
 have HW:=ah (af7 K h v);have HK:=ah K;clear h K;by_cases hv:jO v
 ·have hc:vC v=0:=by unfold vC;rw[if_pos hv]
  have hm:Np es v=members es v:=by unfold Np;rw[if_pos hv]
  rw[hc]at HW;rw[hc,hm];have HV:=ah hv;clear hc hm hv;go_enter func12,ntmps12
  go_wp2_with fail
  refine aac HW ?_;rintro e w1 ⟨l,A,c,A8,zX,rfl,hq,hf⟩;have HL:=ah zX.ls;have HQ:=ah hq;have HF:=ah hf;have HWK:=ah A8;have Dw:=A8.len;clear zX hq hf A8 HW;go_wp2
  go_loopw [8,22] (λo i wr=>∃j:Nat,j<=l.length/\i= .int .i64 j/\LO fZ 3 wr w1.heap.size o (vs (l.take j))/\Below w1.heap.size w1 wr) (λ_ i _=>l.length-(intOf i).toNat)
  case atStart=>exact⟨0,ac4 _,rfl,LO.nil_ _ _,aU⟩
  case round=>
   obtain⟨j,hj,rfl,dh,hb⟩:=hrel;obtain⟨A2,c2,rfl⟩:=dh.form;have hvl:=akF (l.take j);rw[List.length_take]at hvl;by_cases hlt:j<l.length
   ·obtain⟨b,off,rfl,rJ,yT⟩:=HL.out.at_ hlt;have HTK:Hid (vs (l.take (j+1))=vs (l.take j)++(if l[j].1=l[j].2 then [l[j].1]else [])):=ah (by rw[List.take_succ_eq_append_getElem hlt,ajt]);have k0:wr.cell? ⟨b,off+j*2,none⟩=some (.int .i64 l[j].1):=(hb.cell (p:=⟨b,off+j*2,none⟩) rJ).trans (yT 0 ay);have k1:wr.cell? ⟨b,off+j*2+1,none⟩=some (.int .i64 l[j].2):=(hb.cell (p:=⟨b,off+j*2+1,none⟩) rJ).trans (yT 1 ay);generalize l[j]=x at*;obtain⟨xa,xb⟩:=x;simp only at k0 k1 HTK;have b6:=hb.alloc hb.size (.cells #[.int .i64 xa, .int .i64 xb] 71);have o6:=dh.below (Below.alloc (aai _ wr) aK (.cells #[.int .i64 xa, .int .i64 xb] 71));obtain⟨zl,Z9⟩:=aJ (vs (l.take j));rw[<-Z9]at dh o6 hvl HTK;have HZL:=ah Z9;rw[<-Z9];clear Z9 yT dh;by_cases VG:xa=xb
    ·subst VG;have hbv:=aO.new wr 71 #[.int .i64 xa, .int .i64 xa];have v0:=hbv.cell 0;have v1:=hbv.cell 1;have Rt:=LO.raw o6 (rfl:zl.length=zl.length) (show fZ.size=1 from rfl);have VF:=b6.size;clear hbv o6;go_wp2_with (at_builtin;refine fA rfl _ _ 32 rfl SN underlying32 rfl ay rfl Rt rfl aH rfl (by simp[Value.oneCell']) (by unfold maxLen;omega) ak VF ?_;intro v' w7 eG jT iT _ _)
     have hsn:=LO.snoc (E:=fZ) (x:=(xa:Int)) (l:=zl) (n:=zl.length) rfl rfl rfl eG
     have aju:LO fZ 3 w7 w1.heap.size v' (vs (l.take (j+1))):=by
      rw[HTK.out,if_pos rfl];exact hsn
     exact⟨⟨j+1,hlt,by go_num,aju,b6.trans iT⟩,by simp[intOf];omega⟩
    ·have aju:LO fZ 3 (wr.alloc (.cells #[.int .i64 xa, .int .i64 xb] 71)) w1.heap.size (.slice A2 zl.length c2) (vs (l.take (j+1))):=by
      rw[HTK.out,if_neg VG,agX];exact o6
     have HSN:=ah aju;clear aju o6;go_wp2
     go_roundw
     case rel=>exact⟨j+1,hlt,by go_num,HSN,b6⟩
     case measure=>simp[intOf];omega
   ·obtain rfl:j=l.length:=by omega
    rw[List.take_length]at dh ⊢;have ash:=akF l;have SE:=ah (HWK.out.all HV);have HBB:=ah hb;have HQE:Hid (∀w',Below w1.heap.size w1 w'->P8 B u0 q tq T f es m w'):=ah λw' hb=>HQ.out.below HK hb;have fG:=HF.out.size;obtain⟨zl,Z9⟩:=aJ (vs l);rw[<-Z9]at dh ash SE;rw[<-Z9];clear hb Z9 HWK hvl HL;by_cases hz:zl= []
    ·subst hz;have h0:=aO.new wr 3 #[.int .i64 v];have Dq:LO fZ 3 (wr.alloc (.cells #[.int .i64 v] 3)) w1.heap.size (.slice (some ⟨wr.heap.size,0,none⟩) 1 1) [v]:=LO.one rfl rfl h0 HBB.out.size;have hso:=PN Dq aH;have HSO:=ah hso;have qj:=ah (HBB.out.alloc HBB.out.size (.cells #[.int .i64 v] 3));have gJ:zV [v]=members es v:=SE.out _ (by rw[if_pos rfl];exact(Ez _).1) (Ez _).2;rw[gJ]at HSO;have RG:(members es v).length=1:=by rw[<-gJ,AU];rfl
     have HLN:=ah RG;clear Dq h0 hso dh gJ RG SE;go_wp2_with fail
     refine aac HSO ?_;rintro e w5 ⟨rfl,ho5,lZ⟩;have HO5:=ah ho5;have EU:=ah (qj.out.trans lZ);clear ho5 lZ HSO;go_wp2;go_ret2;exact⟨some ⟨wr.heap.size,0,none⟩,1,by rw[HLN.out];exact HO5.out.lower fG,by rw[HLN.out];rfl,HQE _ EU,HF.out.trans (.of_below EU)⟩
    ·have hso:=PN dh ak;have HSO:=ah hso;have gJ:zV zl=members es v:=SE.out _ (by rw[if_neg hz];exact(Ez _).1) (Ez _).2;rw[gJ]at HSO;have RG:(members es v).length=zl.length:=by rw[<-gJ,AU]
     have agw:zl.length≠0:=λa=>hz (adu.1 a);obtain⟨n,hn⟩:=aJ (zl.length);rw[<-hn]at HSO agw ash RG ⊢;have HLN:=ah RG;have hni:¬ ((n:Int)=0):=by omega
     have xq:((n:Int)==0)=false:=by simpa using hni
     clear hso dh gJ RG SE hz hn;go_wp2_with fail
     refine aac HSO ?_;rintro e w5 ⟨rfl,ho5,lZ⟩;have HO5:=ah ho5;have EU:=ah (HBB.out.trans lZ);clear ho5 lZ HSO;go_wp2;go_ret2;exact⟨A2,c2,by rw[HLN.out];exact HO5.out.lower fG,by rw[HLN.out];rfl,HQE _ EU,HF.out.trans (.of_below EU)⟩
 ·have hc:vC v=30:=by unfold vC;rw[if_neg hv]
  have hm:Np es v= []:=by unfold Np;rw[if_neg hv]
  rw[hc]at HW;rw[hc,hm];have HV:=ah hv;clear hc hm hv;go_enter func12,ntmps12
  go_wp2_with fail
  refine aac HW ?_;rintro e w1 ⟨l,A,c,A8,zX,rfl,hq,hf⟩;have HQ:=ah hq;have HF:=ah hf;clear zX hq hf A8 HW;go_wp2;go_ret2;exact⟨none,0,LO.nil_ _ _,rfl,HQ,HF⟩
end
end Go.Proofs.YtadnmegdbllaoaaGreatDoor
namespace Go.Proofs.YtadnmegdbllaoaaGreatDoor
open Go.RowKit Go.Shelf Tryz
theorem Gq(A B:Option Addr)(l:List Int)(c d:Nat)(w:World)(ha:LS fZ w w.heap.size A l)(hb:LS fZ w w.heap.size B l)(hl:l.length<=1000000):
  Calls prog 14 #[.slice A l.length c, .slice B l.length d] w λe w'=>e= .returned (.bool true)/\Below w.heap.size w w':=by
 go_enter func14,ntmps14
 go_wp2
 go_loopw [5] (λi wr=>∃k:Nat,k<=l.length/\i= .int .i64 k/\Below w.heap.size w wr) (λi _=>l.length-(intOf i).toNat)
 case atStart=>exact⟨0,by omega,rfl,aU⟩
 case round=>
  obtain⟨k,hk,rfl,fM⟩:=hrel;by_cases hlt:k<l.length
  ·obtain⟨b1,o1,rfl,_,g0⟩:=(ha.below fM).int hlt;obtain⟨b2,o2,rfl,_,g2⟩:=(hb.below fM).int hlt;go_wp2
   go_quiet (fail)
   go_wp2
   go_roundw
   case rel=>exact⟨k+1,by omega,by go_num,below_drewN fM _⟩
   case measure=>simp[intOf];omega
  ·go_wp2;go_ret;exact⟨rfl,fM⟩
end Go.Proofs.YtadnmegdbllaoaaGreatDoor
namespace Go.Proofs.YtadnmegdbllaoaaGreatDoor
open Go.RowKit Go.Shelf Sq Tryz
section
variable {base n M tq k:Nat}{a:Nk}{es:List Tok}{u v:Int}{w w':World}
def FE(base n M:Nat)(a:Nk)(tq:Nat)(es:List Tok)(k:Nat)(x:Value)(w:World)(e:Ending)(w':World):Prop:=e= .returned x/\lV base n M a tq es k w'/\Fr a.F w w'
theorem lV.with_(h:lV base n M a tq es k w){k' q:Nat}{es':List Tok}(hg:TuG (a.u+1) a.u q tq (TKv n M a) es' k' w')(hf:Fr a.F w w'):lV base n M a tq es' k' w':=⟨⟨q,hg⟩,h.kv,h.far,h.tq,acN h.size hf.size⟩
theorem lV.flt(h:lV base n M a tq es k w):∀x,a.F x->x<w.heap.size:=λx hx=>by
 obtain⟨q,f,m,h1,_⟩:=h.g;have h2:=h.kv.low x hx;have h3:=h1.tu.hq;have h4:=h1.tu.lt;omega
theorem sU(h:lV base n M a tq es k w)(hk:GV es u v=0->1<=k):Calls prog 11 #[.pointer (some ⟨tq,0,none⟩), .int .i64 u, .int .i64 v] w (FE base n M a tq (Fe es u v) (if GV es u v=0 then k-1 else k) (.int .i64 (GV es u v)) w):=by
 obtain⟨q,hg⟩:=h.g;refine(anx h.kv hg hk).mono ?_;rintro e w' ⟨rfl,a1,a2⟩;exact⟨rfl,h.with_ a1 a2,a2⟩
theorem EC(h:lV base n M a tq es k w):Calls prog 10 #[.pointer (some ⟨tq,0,none⟩), .int .i64 u, .int .i64 v] w (FE base n M a tq (YO es u v) k (.int .i64 (VW es u v)) w):=by
 obtain⟨q,hg⟩:=h.g;refine(asf h.kv hg).mono ?_;rintro e w' ⟨rfl,a1,a2⟩;exact⟨rfl,h.with_ a1 a2,a2⟩
theorem L9{fn:Nat}{args:Array Value}{x:Value}(h:lV base n M a tq es k w)(hq:∀q f m,P8 (a.u+1) a.u q tq (TKv n M a) f es m w->Calls prog fn args w (QE a.F (a.u+1) a.u q tq (TKv n M a) f es m x w)):Calls prog fn args w (FE base n M a tq es k x w):=by
 obtain⟨q,f,m,h1,h2,h3⟩:=h.g;refine(hq q f m h1).mono ?_;rintro e w' ⟨rfl,a1,a2⟩;exact⟨rfl,h.with_ ⟨f,m,a1,h2,h3⟩ a2,a2⟩
theorem PO(h:lV base n M a tq es k w)(v:Int):Calls prog 13 #[.pointer (some ⟨tq,0,none⟩), .int .i64 v] w (FE base n M a tq es k (.tuple #[.int .i64 (szN es v), .int .i64 (vC v)]) w):=L9 h λ_ _ _ h1=>anz h.kv h1 v
theorem Vq(h:lV base n M a tq es k w)(u v:Int):Calls prog 25 #[.pointer (some ⟨tq,0,none⟩), .int .i64 u, .int .i64 v] w (FE base n M a tq es k (.tuple #[.bool (decide ((jO u/\jO v)/\v∈members es u)), .int .i64 (vC2 u v)]) w):=L9 h λ_ _ _ h1=>af6 h.kv h1 u v
theorem acA(h:lV base n M a tq es k w)(u v:Int):Calls prog 26 #[.pointer (some ⟨tq,0,none⟩), .int .i64 u, .int .i64 v] w (FE base n M a tq es k (.tuple #[.bool (decide ((jO u/\jO v)/\u≠v/\Bg u v∈es)), .int .i64 (vC2 u v)]) w):=L9 h λ_ _ _ h1=>anA h.kv h1 u v
theorem acB(h:lV base n M a tq es k w)(v:Int):Calls prog 27 #[.pointer (some ⟨tq,0,none⟩), .int .i64 v] w λe w'=>∃ (l:List Tok) (A:Option Addr) (c:Nat),acv es v (jO v) l/\LO tokE 71 w' w.heap.size (.slice A l.length c) l/\FE base n M a tq es k (.tuple #[.slice A l.length c, .int .i64 (vC v)]) w e w':=by
 obtain⟨q,f,m,h1,h2,h3⟩:=h.g;refine(af7 h.kv h1 v).mono ?_;rintro e w' ⟨l,A,c,b1,b2,rfl,a1,a2⟩;exact⟨l,A,c,b1,b2,rfl,h.with_ ⟨f,m,a1,h2,h3⟩ a2,a2⟩
theorem mO(h:lV base n M a tq es k w)(v:Int):Calls prog 12 #[.pointer (some ⟨tq,0,none⟩), .int .i64 v] w λe w'=>∃ (A:Option Addr) (c:Nat),LO fZ 3 w' w.heap.size (.slice A (Np es v).length c) (Np es v)/\FE base n M a tq es k (.tuple #[.slice A (Np es v).length c, .int .i64 (vC v)]) w e w':=by
 obtain⟨q,f,m,h1,h2,h3⟩:=h.g;refine(acz h.kv h1 v).mono ?_;rintro e w' ⟨A,c,b2,rfl,a1,a2⟩;exact⟨A,c,b2,rfl,h.with_ ⟨f,m,a1,h2,h3⟩ a2,a2⟩
end
theorem anD{es:List Tok}{v:Int}{l:List Tok}(h:acv es v (jO v) l)(hv:jO v)(h1:members es v= [v])(h2:∀e,e∈es->e.1≠v):l.length=0:=by
 have hr:=(h.rt hv).one;rw[h1]at hr;rw[hr rfl ?_]
 ·rfl
 ·unfold Ro;rw[adu,ajT];intro e he hd;exact h2 e he (by simpa using hd)
theorem LS.three{w:World}{x y z:Int} :LS fZ (w.alloc (.cells #[.int .i64 x, .int .i64 y, .int .i64 z] 3)) (w.alloc (.cells #[.int .i64 x, .int .i64 y, .int .i64 z] 3)).heap.size (some ⟨w.heap.size,0,none⟩) [x,y,z]:=by
 have hB:=aO.new w 3 #[.int .i64 x, .int .i64 y, .int .i64 z];refine⟨rfl,λ_=>⟨_,rfl,hB.lt,λj u hj=> ?_⟩⟩;have e:(Addr.add ⟨w.heap.size,0,none⟩ j)=⟨w.heap.size,j,none⟩:=by unfold Addr.add;by_cases h:j=0<;>simp[h]
 rw[e,hB.cell j];simpa[fZ,Enc.cells]using hj
def PS(w:World)(e:Ending)(w':World):Prop:=e= .returned (.bool true)/\Below w.heap.size w w'
theorem Vr(w:World):Calls prog 8 #[] w (PS w):=by
 have HFO:=ah (L8 (M:=13) (k:=2) 60 w (by unfold Rm;decide) ay);rw[show uO 60=60 by decide]at HFO;go_enter func8,ntmps8
 go_wp2_with fail
 refine aac HFO ?_;rintro e w1 ⟨a,tq,rfl,h1,b1⟩;have zZ:=ah b1;have Wj:Hid (∀W W',Below w.heap.size w W->Fr a.F W W'->Below w.heap.size w W'):=ah λW W' h f=>h.trans (f.low h.size h1.far);have HL:=sU (u:=1) (v:=2) h1 ay;rw[show GV [] 1 2=0 by decide,show Fe [] 1 2= [(1,2)]by decide,if_pos rfl]at HL;have HC1:=ah HL;clear HFO HL h1 b1;go_wp2_with fail
 refine aac HC1 ?_;rintro e w2 ⟨rfl,h2,f2⟩;have qj:=ah (Wj.out _ _ zZ f2);have HL:=sU (u:=2) (v:=3) h2 ay;rw[show GV [(1,2)] 2 3=0 by decide,show Fe [(1,2)] 2 3= [(1,2),(2,3)]by decide,if_pos rfl]at HL;have HC2:=ah HL;clear HC1 HL h2 f2 zZ;go_wp2_with fail
 refine aac HC2 ?_;rintro e w3 ⟨rfl,h3,f3⟩;have vY:=ah (Wj.out _ _ qj f3);have HS:=PO h3 1;rw[show szN [(1,2),(2,3)] 1=3 by decide,show vC 1=0 by decide]at HS;have HC3:=ah HS;clear HC2 HS h3 f3 qj;go_wp2_with fail
 refine aac HC3 ?_;rintro e w4 ⟨rfl,h4,f4⟩;have oD:=ah (Wj.out _ _ vY f4);have HM:=mO h4 3;rw[show Np [(1,2),(2,3)] 3= [1,2,3]by decide,show vC 3=0 by decide]at HM;have HC4:=ah HM;clear HC3 HM h4 f4 vY;go_wp2_with fail
 refine aac HC4 ?_;rintro e w5 ⟨A,c,zX,rfl,h5,f5⟩;have EU:=ah (Wj.out _ _ oD f5);have b6:=(aai w5.heap.size w5).alloc aK (.cells #[.int .i64 1, .int .i64 2, .int .i64 3] 3);have alF:=Gq A (some ⟨w5.heap.size,0,none⟩) [1,2,3] c 3 (w5.alloc (.cells #[.int .i64 1, .int .i64 2, .int .i64 3] 3)) (zX.below b6).ls LS.three ay;have wz:=ah alF;have HB6:=ah (EU.out.trans (b6.mono EU.out.size));have HH6:=ah (h5.below b6);clear HC4 zX h5 f5 oD b6 alF EU;go_wp2_with fail
 refine aac wz ?_;rintro e w7 ⟨rfl,b7⟩;have Si:=ah (HB6.out.trans (b7.mono HB6.out.size));have Ot:=EC (u:=1) (v:=2) (HH6.out.below b7);rw[show VW [(1,2),(2,3)] 1 2=0 by decide,show YO [(1,2),(2,3)] 1 2= [(2,3)]by decide]at Ot;have HC7:=ah Ot;clear wz Ot b7 HB6 HH6;go_wp2_with fail
 refine aac HC7 ?_;rintro e w8 ⟨rfl,h8,f8⟩;have HB8:=ah (Wj.out _ _ Si f8);have HJ:=Vq h8 1 3;rw[show decide ((jO 1/\jO 3)/\(3:Int)∈members [(2,3)] 1)=false by decide,show vC2 1 3=0 by decide]at HJ;have HC8:=ah HJ;clear HC7 HJ h8 f8 Si;go_wp2_with fail
 refine aac HC8 ?_;rintro e w9 ⟨rfl,h9,f9⟩;have HB9:=ah (Wj.out _ _ HB8 f9);have HS:=PO h9 1;rw[show szN [(2,3)] 1=1 by decide,show vC 1=0 by decide]at HS;have HC9:=ah HS;clear HC8 HS h9 f9 HB8;go_wp2_with fail
 refine aac HC9 ?_;rintro e w10 ⟨rfl,h10,f10⟩;have acC:=ah (Wj.out _ _ HB9 f10);have HE:=acA h10 2 3;rw[show decide ((jO 2/\jO 3)/\(2:Int)≠3/\Bg 2 3∈ [((2:Int),(3:Int))])=true by decide,show vC2 2 3=0 by decide]at HE;have asi:=ah HE;clear HC9 HE h10 f10 HB9;go_wp2_with fail
 refine aac asi ?_;rintro e xB ⟨rfl,h11,f11⟩;have QI:=ah (Wj.out _ _ acC f11);have HW:=acB h11 1;rw[show vC 1=0 by decide]at HW;have asj:=ah HW;clear asi HW h11 f11 acC;go_wp2_with fail
 refine aac asj ?_;rintro e w12 ⟨l,A12,c12,A8,_,rfl,h12,f12⟩;have qh:=anD A8 ay ay ay;rw[qh];have Gm:=ah (Wj.out _ _ QI f12);have HL:=sU (u:=2) (v:=3) h12 ay;rw[show GV [(2,3)] 2 3=1 by decide,show Fe [(2,3)] 2 3= [(2,3)]by decide,if_neg ay]at HL;have asl:=ah HL;clear asj HL h12 f12 QI A8 qh;go_wp2_with fail
 refine aac asl ?_;rintro e w13 ⟨rfl,h13,f13⟩;have asn:=ah (Wj.out _ _ Gm f13);have Ot:=EC (u:=1) (v:=2) h13;rw[show VW [(2,3)] 1 2=181 by decide,show YO [(2,3)] 1 2= [(2,3)]by decide]at Ot;have aso:=ah Ot;clear asl Ot h13 f13 Gm;go_wp2_with fail
 refine aac aso ?_;rintro e w14 ⟨rfl,h14,f14⟩;have ahS:=ah (Wj.out _ _ asn f14);have HL:=sU (u:=1) (v:=1) h14 ay;rw[show GV [(2,3)] 1 1=31 by decide,show Fe [(2,3)] 1 1= [(2,3)]by decide,if_neg ay]at HL;have asq:=ah HL;clear aso HL h14 f14 asn;go_wp2_with fail
 refine aac asq ?_;rintro e w15 ⟨rfl,h15,f15⟩;have asr:=ah (Wj.out _ _ ahS f15);have HL:=sU (u:= -1) (v:=1) h15 ay;rw[show GV [(2,3)] (-1) 1=30 by decide,show Fe [(2,3)] (-1) 1= [(2,3)]by decide,if_neg ay]at HL;have asu:=ah HL;clear asq HL h15 f15 ahS;go_wp2_with fail
 refine aac asu ?_;rintro e w16 ⟨rfl,h16,f16⟩;have awJ:=ah (Wj.out _ _ asr f16);clear h16 f16 asu asr;go_wp2;go_ret;exact⟨rfl,awJ⟩
abbrev Mc:=Int × Int × Int
def uh:Enc Mc:=⟨λx=> [.int .i64 x.1, .int .i64 x.2.1, .int .i64 x.2.2],3,λ_=>rfl,by decide,λx u hu=>by simp at hu;rcases hu with rfl | rfl | rfl<;>rfl⟩
theorem LS.anE{w:World}{B:Nat}{A:Option Addr}{l:List Mc}(h:LS uh w B A l){k:Nat}(hk:k<l.length):∃b off,A=some ⟨b,off,none⟩/\b<B/\w.cell? ⟨b,off+k*3,none⟩=some (.int .i64 l[k].1)/\w.cell? ⟨b,off+k*3+1,none⟩=some (.int .i64 l[k].2.1)/\w.cell? ⟨b,off+k*3+2,none⟩=some (.int .i64 l[k].2.2):=by
 obtain⟨b,off,e,hb,hc⟩:=h.at_ hk;exact⟨b,off,e,hb,hc 0 ay,hc 1 ay,hc 2 ay⟩
def pV(w:World)(base:Nat)(a:Nk)(tq k:Nat)(es:List Tok)(W:World):Prop:=lV base 3000 244 a tq es k W/\Below w.heap.size w W/\w.heap.size<=base
section
variable {w W W':World}{base tq k:Nat}{a:Nk}{es:List Tok}{u v:Int}
theorem pV.step(h:pV w base a tq k es W){es':List Tok}{k' k2:Nat}(hs:lV base 3000 244 a tq es' k' W')(hf:Fr a.F W W')(hk:k2<=k'):pV w base a tq k2 es' W':=⟨hs.less hk,h.2.1.trans (hf.low (acN h.2.2 h.1.size) λx hx=>acN h.2.2 (h.1.far x hx)),h.2.2⟩
theorem pV.below(h:pV w base a tq k es W)(hb:Below W.heap.size W W'):pV w base a tq k es W':=⟨h.1.below hb,h.2.1.trans (hb.mono h.2.1.size),h.2.2⟩
theorem pV.low(h:pV w base a tq k es W)(hf:Fr a.F W W'):Below w.heap.size W W':=hf.low h.2.1.size λx hx=>acN h.2.2 (h.1.far x hx)
def LE(w:World)(base:Nat)(a:Nk)(tq k:Nat)(es:List Tok)(x:Value)(W:World)(e:Ending)(W':World):Prop:=e= .returned x/\Hid (pV w base a tq k es W')/\Hid (Fr a.F W W')/\Below w.heap.size W W'
theorem ZH(h:pV w base a tq (k+1) es W):Calls prog 11 #[.pointer (some ⟨tq,0,none⟩), .int .i64 u, .int .i64 v] W (LE w base a tq k (Fe es u v) (.int .i64 (GV es u v)) W):=by
 refine(sU h.1 λ_=>Nat.succ_pos k).mono ?_;rintro e W' ⟨rfl,a1,a2⟩;exact⟨rfl,ah (h.step a1 a2 (by split<;>omega)),ah a2,h.low a2⟩
end
end Go.Proofs.YtadnmegdbllaoaaGreatDoor
namespace Go.Proofs.YtadnmegdbllaoaaGreatDoor
open Go.RowKit Go.Shelf Tryz
theorem uH.fr2{w w':World}{t m f n k:Nat}{free:List Run}{pages:Int}{D:DataW Value}{S':Nat->Prop}(h:uH w t m f n free pages k D)(hf:Fr S' w w')(ht:¬S' t)(hm:¬S' m)(avx:∀b,S' b->∀o,w.heap[b]? =some o->(∀cs,o≠ .cells cs 102)/\(∀cs,o≠ .cells cs 108)/\(∀cs,o≠ .cells cs 120)):uH w' t m f n free pages k D:=by
 have key:∀b o,w.heap[b]? =some o->¬S' b->w'.heap[b]? =some o:=λb o ho hn=>(hf.block b (ak1.1 ho).1 hn).trans ho;obtain⟨⟨d,h1,cs,A,c,h2,h3⟩,⟨v,h4,h5⟩,es,ck,h6,h7⟩:=h;refine⟨⟨d,key _ _ h1 (λa=>(avx _ a _ h1).2.1 _ rfl),cs,A,c,key _ _ h2 (λa=>(avx _ a _ h2).2.2 _ rfl),h3⟩,⟨v,key _ _ h4 ht, ?_⟩,es,ck,key _ _ h6 hm,h7⟩;rcases h5 with⟨e1,e2 | ⟨g,cap,cur,hv,hb,hh,hr⟩⟩
 ·exact⟨e1, .inl e2⟩
 ·exact⟨e1, .inr ⟨g,cap,cur,hv,hb,key _ _ hh (λa=>(avx _ a _ hh).1 _ rfl),hr⟩⟩
theorem Ju.other{n n':Nat}{a b:Nk}{root root':Int}{σ σ':Tp.dR}{ids qY:List Int}{es es':List bT}{tok amI:Nat}{w w':World}(h:Ju n a root σ ids es tok w)(hb:Ju n' b root' σ' qY es' amI w)(dL:∀k,b.F k->¬a.F k)(hf:Fr b.F w w'):Ju n a root σ ids es tok w':=by
 obtain⟨Db,⟨_,⟨vb,iC,_⟩,esb,ckb,BR,_⟩,_,_⟩:=hb.on.tm.txn;have hbu:=hb.on.self
 have avx:∀k,b.F k->∀o,w.heap[k]? =some o->(∀cs,o≠ .cells cs 102)/\(∀cs,o≠ .cells cs 108)/\(∀cs,o≠ .cells cs 120):=λk hk o ho=>by
  rcases hk with(rfl | rfl) | rfl
  ·have e:=ho.symm.trans iC;injection e with e;subst e;exact⟨λcs e=>(by injection e with _ e;cases e),λcs e=>(by injection e with _ e;cases e),λcs e=>(by injection e with _ e;cases e)⟩
  ·have e:=ho.symm.trans BR;injection e with e;subst e;exact⟨λcs e=>(by cases e),λcs e=>(by cases e),λcs e=>(by cases e)⟩
  ·have e:=ho.symm.trans hbu;injection e with e;subst e;exact⟨λcs e=>(by injection e with _ e;cases e),λcs e=>(by injection e with _ e;cases e),λcs e=>(by injection e with _ e;cases e)⟩
 have Wh:∀k,a.F k->¬b.F k:=λk h1 h2=>dL k h2 h1;obtain⟨D,h4,h5,h6⟩:=h.on.tm.txn;exact⟨⟨⟨⟨h.on.tm.low.1,h.on.tm.low.2.1,acN h.on.tm.low.2.2 hf.size⟩,h.on.tm.ap,h.on.tm.fit,D,h4.fr2 hf (Wh _ (.inl (.inl rfl))) (Wh _ (.inl (.inr rfl))) avx,h5,h6⟩,hf.blk h.on.self (Wh _ (.inr rfl)),h.on.hu⟩,h.rt,h.mine,h.tl⟩
theorem TAt.other{n n':Nat}{a b:Nk}{es es':List bT}{tok amI:Nat}{w w':World}(h:TAt n a es tok w)(hb:TAt n' b es' amI w)(dL:∀k,b.F k->¬a.F k)(hf:Fr b.F w w'):TAt n a es tok w':=by
 obtain⟨r,s,i,h⟩:=h;obtain⟨r',s',i',hb⟩:=hb;exact⟨r,s,i,h.other hb dL hf⟩
end Go.Proofs.YtadnmegdbllaoaaGreatDoor
namespace Go.Proofs.YtadnmegdbllaoaaGreatDoor
open Go.RowKit Go.Shelf Sq Tryz
theorem alc{u v:Int} :yB u v=yB v u:=by
 unfold yB;by_cases h:jO u/\jO v
 ·rw[if_pos h,if_pos h.symm];by_cases e:u=v
  ·rw[if_pos e,if_pos e.symm]
  ·rw[if_neg e,if_neg λa=>e a.symm]
 ·rw[if_neg h,if_neg λa=>h a.symm]
section
variable {es:List Tok}{u v:Int}
theorem ale:GV es u v=GV es v u:=by
 unfold GV;rw[alc (u:=u) (v:=v)];by_cases h:v∈members es u
 ·rw[if_pos h,if_pos (Rq.1 h)]
 ·rw[if_neg h,if_neg λa=>h (Rq.1 a)]
theorem aof:Fe es u v=Fe es v u:=by unfold Fe;rw[ale,LX]
theorem alf:VW es u v=VW es v u:=by unfold VW;rw[alc (u:=u) (v:=v),LX]
theorem aog:YO es u v=YO es v u:=by unfold YO;rw[alf,LX]
end
section
variable {base n M tq k base' n' M' tq' k':Nat}{a b:Nk}{es es':List Tok}{w w':World}
theorem lV.other(h:lV base n M a tq es k w)(hb:lV base' n' M' b tq' es' k' w)(hd:∀x,b.F x->¬a.F x)(hq:∀x,b.F x->x<a.u\/tq<x)(hf:Fr b.F w w'):lV base n M a tq es k w':=by
 obtain⟨q,f,m,⟨⟨S,h1,h2⟩,h3,h4,h5⟩,h6⟩:=h.g;obtain⟨q2,f2,m2,⟨⟨S2,g1,_⟩,_⟩,_⟩:=hb.g;obtain⟨e1,⟨tok,ht,ay0⟩,hr⟩:=h1.st.kv;obtain⟨e2,⟨tok2,AZ,_⟩,_⟩:=g1.st.kv;have hh:=h1.st.hq;have hh2:=h1.hq;have n1:¬b.F q:=λhx=>by have:=hq _ hx;omega
 have n2:¬b.F tq:=λhx=>by have:=hq _ hx;omega
 exact⟨⟨q,f,m,⟨⟨S,⟨⟨hf.blk h1.st.self n1,hh,e1,⟨tok,ht.other AZ hd hf,ay0⟩,hr⟩,hf.blk h1.bk n2,hh2⟩,h2⟩,h3,h4,h5⟩,h6⟩,h.kv,h.far,h.tq,acN h.size hf.size⟩
structure alb(w:World)(a b:Nk)(ta tb ka kb:Nat)(ea eb:List Tok)(W:World):Prop where
 fa:∃base,lV base 3000 244 a ta ea ka W/\w.heap.size<=base
 fb:∃base,lV base 3000 244 b tb eb kb W/\w.heap.size<=base/\ta<base/\∀x,a.F x->x<base
 below:Below w.heap.size w W
variable {W W':World}{ta tb ka kb:Nat}{ea eb ea' eb':List Tok}
theorem alb.up(h:alb w a b ta tb ka kb ea eb W)(hb:Below W.heap.size W W'):alb w a b ta tb ka kb ea eb W':=by
 obtain⟨⟨b1,h1,h2⟩,⟨b2,h3,h4⟩,h5⟩:=h;exact⟨⟨b1,h1.below hb,h2⟩,⟨b2,h3.below hb,h4⟩,h5.trans (hb.mono h5.size)⟩
theorem alb.sa(h:alb w a b ta tb ka kb ea eb W){b1:Nat}(h1:lV b1 3000 244 a ta ea' k W')(h2:w.heap.size<=b1)(hf:Fr a.F W W'):alb w a b ta tb k kb ea' eb W'/\Below w.heap.size W W':=by
 obtain⟨⟨b0,h0,_⟩,⟨b2,h3,h4,h5,h6⟩,h7⟩:=h;have hb:=hf.low h7.size λx hx=>acN h2 (h1.far x hx);exact⟨⟨⟨b1,h1,h2⟩,⟨b2,h3.other h0 (λx hx jB=>by have:=h6 x hx;have:=h3.far x jB;omega) (λx hx=> .inl (ak6 (h6 x hx) (h3.far _ (.inr rfl)))) hf,h4,h5,h6⟩,h7.trans hb⟩,hb⟩
theorem alb.sb(h:alb w a b ta tb ka kb ea eb W){b1:Nat}(h1:lV b1 3000 244 b tb eb' k W')(h2:w.heap.size<=b1)(h5:ta<b1)(h6:∀x,a.F x->x<b1)(hf:Fr b.F W W'):alb w a b ta tb ka k ea eb' W'/\Below w.heap.size W W':=by
 obtain⟨⟨b0,h0,h0'⟩,⟨b2,h3,_⟩,h7⟩:=h;have hb:=hf.low h7.size λx hx=>acN h2 (h1.far x hx);exact⟨⟨⟨b0,h0.other h3 (λx hx jB=>by have:=h6 x jB;have:=h1.far x hx;omega) (λx hx=> .inr (ak6 h5 (h1.far x hx))) hf,h0'⟩,⟨b1,h1,h2,h5,h6⟩,h7.trans hb⟩,hb⟩
theorem alb.flt(h:alb w a b ta tb ka kb ea eb W):(∀x,a.F x->x<W.heap.size)/\∀x,b.F x->x<W.heap.size:=by
 obtain⟨⟨b1,h1,_⟩,⟨b2,h3,_⟩,_⟩:=h;exact⟨h1.flt,h3.flt⟩
theorem alb.asJ(h:alb w a b ta tb (k+1) kb ea eb W)(u v:Int):Calls prog 11 #[.pointer (some ⟨ta,0,none⟩), .int .i64 u, .int .i64 v] W λe W'=>e= .returned (.int .i64 (GV ea u v))/\Hid (alb w a b ta tb k kb (Fe ea u v) eb W')/\Fr a.F W W':=by
 obtain⟨b1,h1,h2⟩:=h.fa;refine(sU h1 λ_=>Nat.succ_pos k).mono ?_;rintro e W' ⟨rfl,a1,a2⟩;exact⟨rfl,ah (h.sa (a1.less (k':=k) (by split<;>omega)) h2 a2).1,a2⟩
theorem alb.link2(h:alb w a b ta tb ka (k+1) ea eb W)(u v:Int):Calls prog 11 #[.pointer (some ⟨tb,0,none⟩), .int .i64 u, .int .i64 v] W λe W'=>e= .returned (.int .i64 (GV eb u v))/\Hid (alb w a b ta tb ka k ea (Fe eb u v) W')/\Fr b.F W W':=by
 obtain⟨b2,h3,h4,h5,h6⟩:=h.fb;refine(sU h3 λ_=>Nat.succ_pos k).mono ?_;rintro e W' ⟨rfl,a1,a2⟩;exact⟨rfl,ah (h.sb (a1.less (k':=k) (by split<;>omega)) h4 h5 h6 a2).1,a2⟩
theorem alb.awQ(h:alb w a b ta tb (k+1) kb ea eb W)(u v:Int):Calls prog 10 #[.pointer (some ⟨ta,0,none⟩), .int .i64 u, .int .i64 v] W λe W'=>e= .returned (.int .i64 (VW ea u v))/\Hid (alb w a b ta tb k kb (YO ea u v) eb W')/\Fr a.F W W':=by
 obtain⟨b1,h1,h2⟩:=h.fa;refine(EC h1).mono ?_;rintro e W' ⟨rfl,a1,a2⟩;exact⟨rfl,ah (h.sa (a1.less (k':=k) ak) h2 a2).1,a2⟩
theorem alb.awS(h:alb w a b ta tb ka (k+1) ea eb W)(u v:Int):Calls prog 10 #[.pointer (some ⟨tb,0,none⟩), .int .i64 u, .int .i64 v] W λe W'=>e= .returned (.int .i64 (VW eb u v))/\Hid (alb w a b ta tb ka k ea (YO eb u v) W')/\Fr b.F W W':=by
 obtain⟨b2,h3,h4,h5,h6⟩:=h.fb;refine(EC h3).mono ?_;rintro e W' ⟨rfl,a1,a2⟩;exact⟨rfl,ah (h.sb (a1.less (k':=k) ak) h4 h5 h6 a2).1,a2⟩
end
theorem alh(A:Option Addr)(c:Nat)(l:List Mc)(v:Int)(w:World)(hr:LS uh w w.heap.size A l):Calls prog 4 #[.slice A l.length c, .int .i64 v] w (PS w):=by
 have HW:=ah (Vr w);have HR:=ah hr;have HFO:=ah (λW=>L8 (M:=244) (k:=60) 3000 W (by unfold Rm;decide) ay);rw[show uO 3000=3000 by decide]at HFO;clear hr;by_cases Dw:60<l.length
 ·have hli:(60:Int)<(l.length:Nat):=by omega
  go_enter func4,ntmps4
  go_wp2_with fail
  refine aac HW ?_;rintro e w1 ⟨rfl,b1⟩;have HB:=ah b1;clear b1 HW HFO;go_wp2;go_ret;exact⟨rfl,HB⟩
 ·have hli:¬ (60:Int)<(l.length:Nat):=by omega
  go_enter func4,ntmps4
  go_wp2_with fail
  refine aac HW ?_;rintro e w1 ⟨rfl,b1⟩;have HF:=ah (HFO.out w1);have HB:=ah b1;clear b1 HW;go_wp2_with fail
  refine aac HF ?_;rintro e w2 ⟨a,ta,rfl,h2,b2⟩;have kL:=ah (HFO.out w2);have HH2:=ah h2;have qj:=ah (HB.out.trans (b2.mono HB.out.size));have lI:ta<w2.heap.size:=by obtain⟨q,f,m,q1,_⟩:=h2.g;exact q1.tu.lt
  clear h2 b2 HF HFO;go_wp2_with fail
  refine aac kL ?_;rintro e w3 ⟨b,tb,rfl,h3,b3⟩;have MO:Hid (alb w a b ta tb 60 60 [] [] w3):=ah ⟨⟨_,HH2.out.below b3,HB.out.size⟩,⟨_,h3,qj.out.size,lI,HH2.out.flt⟩,qj.out.trans (b3.mono qj.out.size)⟩;clear h3 b3 kL HH2 HB qj lI;go_wp2
  go_loopg [10] l.length (λg s6 wr=>∃j:Nat,s6= .int .i64 (j:Nat)/\j<=l.length/\l.length-j<=g/\Hid (∃es,alb w a b ta tb (60-j) (60-j) es es wr))
  case atStart=>exact⟨0,rfl,ac4 _,by omega,ah ⟨_,MO⟩⟩
  case round=>
   obtain⟨j,rfl,hjl,hjg,HS⟩:=hrel;by_cases hj:j<l.length
   ·have qg:(j:Int)<(l.length:Nat):=by omega
    have hwj:IntKind.i64.wrap ((j:Int)+1)=(j:Int)+1:=acK _ ak;obtain⟨es,h1⟩:=HS.out;obtain⟨bb,oo,rfl,rJ,c0,c1,c2⟩:=(HR.out.below h1.below).anE hj;obtain⟨k,hk⟩:∃k,60-j=k+1:=⟨59-j,by omega⟩;have sV:k=60-(j+1):=by omega
    rw[hk]at h1;generalize l[j]=x at*;obtain⟨xk,xu,xv⟩:=x;simp only at c0 c1 c2;have hbx:=aO.new wr 29 #[.int .i64 xk, .int .i64 xu, .int .i64 xv];obtain⟨w5,oI⟩:=aJ (wr.alloc (.cells #[.int .i64 xk, .int .i64 xu, .int .i64 xv] 29));have h5:=h1.up ((aai wr.heap.size wr).alloc aK (.cells #[.int .i64 xk, .int .i64 xu, .int .i64 xv] 29));obtain⟨f1,f2⟩:=h1.flt;have l9:Hid (¬a.F wr.heap.size):=ah λhx=>Nat.lt_irrefl _ (f1 _ hx);rw[<-oI]at h5 hbx;have HBX:=ah hbx;have v0:=hbx.cell 0;have v1:=hbx.cell 1;have v2:=hbx.cell 2;have HL:=ah (h5.asJ xu xv);have HC:=ah (h5.awQ xu xv);have asL:=oI;rw[oI]at v0 v1 v2;clear h1 h5 f1 f2 HS hk hbx;by_cases hq:xk.tmod 4=2
    ·have Jr:(xk.tmod 4==2)=true:=by simpa using hq
     clear HL;go_wp2_with fail
     rw[<-oI];clear oI asL v0 v1 v2;refine aac HC ?_;rintro e w6 ⟨rfl,mQ,f6⟩;have BR:=f6.blk HBX l9;have u1:=BR.cell 1;have u2:=BR.cell 2;have HC2:=ah (mQ.out.awS xv xu);rw[<-alf, <-aog]at HC2;obtain⟨cc,hcc⟩:=aJ (VW es xu xv);rw[<-hcc]at HC2 ⊢;clear f6 BR HC hcc;go_wp2_with fail
     refine aac HC2 ?_;rintro e w7 ⟨rfl,nJ,f7⟩;clear f7 HC2;go_wp2
     go_roundg (l.length-(j+1))
     case measure=>omega
     case rel=>exact⟨j+1,by go_num,by omega,aK,ah ⟨_,sV ▸ nJ.out⟩⟩
    ·have Jr:(xk.tmod 4==2)=false:=by simpa using hq
     clear HC;go_wp2_with fail
     rw[<-oI];clear oI asL v0 v1 v2;refine aac HL ?_;rintro e w6 ⟨rfl,mQ,f6⟩;have BR:=f6.blk HBX l9;have u1:=BR.cell 1;have u2:=BR.cell 2;have HC2:=ah (mQ.out.link2 xv xu);rw[<-ale, <-aof]at HC2;obtain⟨cc,hcc⟩:=aJ (GV es xu xv);rw[<-hcc]at HC2 ⊢;clear f6 BR HL hcc;go_wp2_with fail
     refine aac HC2 ?_;rintro e w7 ⟨rfl,nJ,f7⟩;clear f7 HC2;go_wp2
     go_roundg (l.length-(j+1))
     case measure=>omega
     case rel=>exact⟨j+1,by go_num,by omega,aK,ah ⟨_,sV ▸ nJ.out⟩⟩
   ·obtain rfl:j=l.length:=by omega
    have qg:¬ (l.length:Int)<(l.length:Nat):=by omega
    obtain⟨es,h1⟩:=HS.out;obtain⟨b1,hA1,hA2⟩:=h1.fa;have pR:=ah h1;have Xv:=ah (mO hA1 v);have HA2:=ah hA2;obtain⟨L,hL⟩:=aJ (Np es v);have HML:Hid (∀ (h:jO v),L.length<=244):=ah λh=>by rw[hL,Np,if_pos h];exact hA1.ajr v
    have aBv:L.length<=244:=by
     rw[hL];unfold Np;split
     ·exact hA1.ajr v
     ·exact ac4 _
    rw[<-hL]at Xv;have HLL:=ah hL;clear h1 hA1 hA2 HS hj hjl hjg HR MO hL Dw;go_wp2_with fail
    refine aac Xv ?_;rintro e w6 ⟨A6,c6,r6,rfl,a6,f6⟩;obtain⟨fl1,fl2⟩:=pR.out.flt;have mQ:=ah (pR.out.sa a6 HA2 f6).1;have HFB:=ah fl2;have HFA:=ah fl1;have EZ:=ah r6;clear r6 a6 f6 Xv fl1 fl2;obtain⟨b2,iq,jV,hB3,lW⟩:=mQ.out.fb;have ZX:=ah (mO iq v);rw[<-HLL.out]at ZX;have HQ:=ah (ahr jV (ahr hB3 lW));clear iq jV hB3 lW;go_wp2_with fail
    refine aac ZX ?_;rintro e w7 ⟨A7,c7,r7,rfl,a7,f7⟩;have nJ:=ah (mQ.out.sb a7 HQ.out.1 HQ.out.2.1 HQ.out.2.2 f7).1;have asM:=ah (EZ.out.fr f7 HFB);have HR7:=ah r7;obtain⟨g1,g2⟩:=mQ.out.flt;have HG:=ah (ahr g1 g2);clear r7 a7 f7 ZX EZ g1 g2;obtain⟨b1,hA1,hA2⟩:=nJ.out.fa;have Yt:=ah (PO hA1 v);have HA2:=ah hA2;obtain⟨sz,fG⟩:=aJ (szN es v);rw[<-fG]at Yt;have HSZ:=ah fG;clear hA1 hA2 fG;go_wp2_with fail
    refine aac Yt ?_;rintro e w8 ⟨rfl,a8,f8⟩;have yZ:=ah (nJ.out.sa a8 HA2 f8).1;have asN:=ah (asM.out.fr f8 HFA);have asO:=ah (HR7.out.fr f8 HG.out.1);clear a8 f8 Yt asM HR7;obtain⟨b2,iq,jV,hB3,lW⟩:=yZ.out.fb;have Ot:=ah (PO iq v);rw[<-HSZ.out]at Ot;have HQ:=ah (ahr jV (ahr hB3 lW));clear iq jV hB3 lW;go_wp2_with fail
    refine aac Ot ?_;rintro e w9 ⟨rfl,a9,f9⟩;have HT9:=ah (yZ.out.sb a9 HQ.out.1 HQ.out.2.1 HQ.out.2.2 f9).1;have wz:=ah (Gq A6 A7 L c6 c7 w9 (asN.out.fr f9 HFB).ls (asO.out.fr f9 HG.out.2).ls ak);clear a9 f9 Ot asN asO;go_wp2_with fail
    refine aac wz ?_;rintro e w10 ⟨rfl,b10⟩;have acC:=ah (HT9.out.below.trans (b10.mono HT9.out.below.size));obtain⟨vc,hvc⟩:=aJ (vC v);rw[<-hvc];clear b10 wz hvc;go_wp2;go_ret;exact⟨rfl,acC⟩
end Go.Proofs.YtadnmegdbllaoaaGreatDoor
namespace Go.Proofs.YtadnmegdbllaoaaGreatDoor
open Go.RowKit Go.ChangeShapes Go.WideShapes Go.Deep Tryz
section
variable {H:Type}{enc:TypeId × Value->H}{P:Program}{w:World}{base:Nat}{spare:Nat->Bool}{held:Bool}
theorem ED{t e:TypeId}{fs:Array Field}{fuel:Nat}{cs:List Value}{x:DataW H × List MemPlace}(ht:P.underlying t=some (.slice e))(he:P.underlying e=some (.struct fs))
  (Dq:oneCellFields P fs=true) (hC:P.cellsOf e=fs.size) (h:DataW.trod enc P w base spare held fuel t cs=some x):
  (cs= [.slice none 0 0]/\x=(.nil, []))\/
  ∃ (a:Addr) (len cap m:Nat) (D:Nat->DataW H) (Pl:Nat->List MemPlace),cs= [.slice (some a) len cap]/\base<=a.block/\len<=cap/\cap<=maxLen/\m=(if spare a.block then cap else len)/\
   x=(.slice ((ac9 len).map D) ((ac9 (m-len)).map λj=>D (len+j)),MemPlace.row a (m*fs.size)++(ac9 m).flatMap Pl)/\
   ∀i,i<m->∃ (ys:List (DataW H × List MemPlace)) (n:Nat),D i= .agg (ys.map (·.1))/\Pl i=ys.flatMap (·.2)/\ys.length=fs.size/\
    ∀ (j:Nat) (f:Field),fs[j]? =some f->∃ (v:Value) (y:DataW H × List MemPlace),w.cell? (a.add (i*fs.size+j))=some v/\ys[j]? =some y/\DataW.trod enc P w base spare held n f.type [v]=some y:=by
 rcases open_slice ht h with h0 | ⟨a,len,cap,m,n,D,Pl,yT,hb,hl,hm,Vz,hx,hi⟩
 ·exact .inl h0
 ·refine .inr ⟨a,len,cap,m,D,Pl,yT,hb,hl,hm,Vz,by rw[hC]at hx;exact hx,λi him=> ?_⟩;obtain⟨cs',hc,ht'⟩:=hi i him;rw[hC]at hc;obtain⟨ys,n',ZK,hy,hlen,hyl,hf⟩:=DataW.trod_struct he ht';obtain⟨_,qP,Yr⟩:=World.cells?_some hc;simp only[Prod.mk.injEq]at hy;refine⟨ys,n',hy.1,hy.2,hyl,λj f hj=> ?_⟩;obtain⟨ho,hk⟩:=hone_of Dq j f hj;have hjl:j<fs.size:=(ak1.1 hj).1;have oz:=Yr j hjl;have hv:cs'[j]? =some (cs'[j]'ak):=acU ak;have h1:=hf j f hj;rw[ho,hk]at h1
  have auc:(cs'.drop j).take 1= [cs'[j]'ak]:=by
   rw[List.drop_eq_getElem_cons ak];rfl
  rw[auc]at h1;have hys:ys[j]? =some (ys[j]'ak):=acU ak;refine⟨_,_, ?_,hys,h1.trans hys⟩;rw[<-Go.Deep.add_add,oz,hv]
end
section
variable {H:Type}{enc:TypeId × Value->H}
theorem Yq{W:World}{A:Option Addr}{len cap:Nat}{d:DataW H}{p:List MemPlace}(h:DataW.Trod enc prog W 0 (λ_=>true) true 22 (.slice A len cap) d p):
  ∃l:List Mc,l.length=len/\LS uh W W.heap.size A l:=by
 obtain⟨fuel,hf⟩:=h;rcases ED underlying22 underlying29 aV aV hf with⟨yT,_⟩ | ⟨a,len',cap',m,D,Pl,yT,_,hl,hm,Vz,hx,hi⟩
 ·simp[Value.cells]at yT;obtain⟨rfl,rfl,rfl⟩:=yT;exact⟨[],rfl,LS.nil_⟩
 ·simp[Value.cells]at yT;obtain⟨rfl,rfl,rfl⟩:=yT;simp only[if_true]at Vz;subst Vz
  have key:∀i,∃r:Mc,i<len->W.cell? (a.add (i*3))=some (.int .i64 r.1)/\W.cell? (a.add (i*3+1))=some (.int .i64 r.2.1)/\W.cell? (a.add (i*3+2))=some (.int .i64 r.2.2):=by
   intro i;by_cases Vu:i<len
   ·obtain⟨ys,n,_,_,hys,aoO⟩:=hi i ak;obtain⟨v0,y0,V7,_,t0⟩:=aoO 0 _ rfl;obtain⟨v1,y1,ZO,_,t1⟩:=aoO 1 _ rfl;obtain⟨v2,y2,Dy,_,t2⟩:=aoO 2 _ rfl;obtain⟨x0,e0,_,_⟩:=ak4 underlying3 t0;obtain⟨x1,e1,_,_⟩:=ak4 underlying3 t1;obtain⟨x2,e2,_,_⟩:=ak4 underlying3 t2;simp at e0 e1 e2;subst e0 e1 e2;exact⟨⟨x0,x1,x2⟩,λ_=>⟨V7,ZO,Dy⟩⟩
   ·exact⟨⟨0,0,0⟩,λh=>absurd h Vu⟩
  obtain⟨f,MK⟩:∃f:Nat->Mc,∀i,i<len->W.cell? (a.add (i*3))=some (.int .i64 (f i).1)/\W.cell? (a.add (i*3+1))=some (.int .i64 (f i).2.1)/\W.cell? (a.add (i*3+2))=some (.int .i64 (f i).2.2):=⟨λi=>Classical.choose (key i),λi=>Classical.choose_spec (key i)⟩;clear key;refine⟨(ac9 len).map f,by simp,⟨uh.oJ _,λagw=>⟨a,rfl, ?_, ?_⟩⟩⟩
  ·have:=(MK 0 (by simpa using agw)).1;have hb:=World.block_lt_of_cell? W _ this
   rwa [xC]at hb
  ·intro j u hu
   have hjl:j<len*3:=by
    have:=(List.getElem?_eq_some_iff.1 hu).1;rw[uh.oJ]at this;simpa[uh]using this
   have h0:=uh.cells_at ((ac9 len).map f) (j / 3) (by simp;omega) (j % 3) (by show j % 3<3;omega);have e:j / 3*uh.size+j % 3=j:=by show j / 3*3+j % 3=j;omega
   rw[e,hu]at h0;simp only[List.getElem_map,List.getElem_range]at h0;have hs:=MK (j / 3) ak;have hm:j % 3=0\/j % 3=1\/j % 3=2:=by omega
   rcases hm with hm | hm | hm
   ·rw[hm]at h0;injection h0 with h0;subst h0;rw[<-hs.1,show j / 3*3=j by omega]
   ·rw[hm]at h0;injection h0 with h0;subst h0;rw[<-hs.2.1,show j / 3*3+1=j by omega]
   ·rw[hm]at h0;injection h0 with h0;subst h0;rw[<-hs.2.2,show j / 3*3+2=j by omega]
end
end Go.Proofs.YtadnmegdbllaoaaGreatDoor
