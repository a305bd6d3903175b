/- Part of this proof. -/
import Derived.Shelf.GgSortFunc.InsertionK
import Derived.Shelf.SlSortCmp.NoneTotal
import Derived.Test.YtadnmegdbllaoaaGreatDoorK906
import Derived.Test.YtadnmegdbllaoaaGreatDoorK907
set_option maxRecDepth 100000
set_option maxHeartbeats 8000000
open Array renaming getElem?_modify->akI,length_toList->ag2
open Go.Lib renaming compareInt->ahl
open Go.Value renaming oneCell'->agI
open Go.World.ownsRow renaming alloc->agJ
open List renaming flatMap_cons->ahf,getElem?_eq_none->akK,getElem_mem->acT,length_cons->acH,take_of_length_le->acQ
open Nat renaming zero_add->ahi
namespace Go.Proofs.YtadnmegdbllaoaaGreatDoor
open Go.RowKit Go.Sort Tryz
section
variable {α:Type} [Inhabited α](enc:α->List Value)(k:Nat)
theorem ahV(d:Array α)(i:Nat):d.toList[i]! =d[i]! :=by
 rw[List.getElem!_eq_getElem?_getD,Array.getElem!_eq_getD,Array.getD_eq_getD_getElem?,Array.getElem?_toList]
theorem flat_get(hk:∀x,(enc x).length=k)(h0:0<k):∀ (l:List α) (t:Nat),t<l.length*k->(l.flatMap enc)[t]? =some (enc l[t / k]!)[t % k]!
 | [],t,h=>by simp at h
 |x::l,t,h=>by
  rw[ahf];by_cases ht:t<k
  ·rw[List.getElem?_append_left (by rw[hk];exact ht),Nat.div_eq_of_lt ht,Nat.mod_eq_of_lt ht];have hl:t<(enc x).length:=by rw[hk];exact ht
   simp[hl]
  ·have VH:k<=t:=by omega
   have hlt:t-k<l.length*k:=by rw[acH,Nat.add_mul]at h;omega
   rw[List.getElem?_append_right (by rw[hk];exact VH),hk,flat_get hk h0 l (t-k) hlt];have e1:t / k=(t-k) / k+1:=by rw[<-Nat.sub_add_cancel VH,Nat.add_div_right _ h0];simp
   have e2:t % k=(t-k) % k:=by rw[<-Nat.sub_add_cancel VH,Nat.add_mod_right];simp
   rw[e1,e2];simp
omit [Inhabited α]in
theorem tJ(hk:∀x,(enc x).length=k)(l:List α):(l.flatMap enc).length=l.length*k:=by
 induction l with
 |nil=>simp
 |cons x l ih=>rw[ahf,List.length_append,ih,hk,acH,Nat.add_mul];omega
theorem aaX{w:World}{base e g cap n:Nat}{xs:List Value}(hk:∀x,(enc x).length=k)(h0:0<k){l:List α}(hx:xs=l.flatMap enc)
  (h:w.ownsRow base e k (.slice (some ⟨g,0,none⟩) n cap) n xs):HoldsK enc k w g 0 l.toArray:=by
 subst hx;have hn:n*k=l.length*k:=by have:=h.1;rw[tJ enc k hk]at this;exact this.symm
 intro j hj;rw[size_flatK]at hj;have hj':j<l.length*k:=by simpa using hj
 refine⟨?_, ?_⟩
 ·rw[ahi,h.cellAt j (by rw[hn];exact hj'),flat_get enc k hk h0 l j hj',get_flatK enc k _ j hj];simp
 ·rw[ahi];exact h.frozenAt j
theorem Xq{w:World}{base e g cap n:Nat}{xs:List Value}(hk:∀x,(enc x).length=k)(h0:0<k){l:List α}(hx:xs=l.flatMap enc)
  (h:w.ownsRow base e k (.slice (some ⟨g,0,none⟩) n cap) n xs) (m:Nat) (d:Array α) (os:Array Obj) (hd:d.size=l.length):
  (sortWorldK enc k w g 0 m d os).ownsRow base e k (.slice (some ⟨g,0,none⟩) n cap) n (d.toList.flatMap enc)/\w.grownBy (sortWorldK enc k w g 0 m d os) (some g):=by
 subst hx;have hn:n*k=l.length*k:=by have:=h.1;rw[tJ enc k hk]at this;exact this.symm
 rcases h.2 with⟨hv,_⟩ | ⟨g',cap',cur,hv,hb,hh,hc,hm,hs,ht⟩
 ·cases hv
 ·injection hv with e1 e2 e3;injection e1 with e1;injection e1 with e1;subst e1 e3
  have hlt:g<w.heap.size:=by
   rcases Nat.lt_or_ge g w.heap.size with hlt | yh
   ·exact hlt
   ·rw[Array.getElem?_eq_none yh]at hh;cases hh
  have agC:(sortWorldK enc k w g 0 m d os).heap[g]? =some (.cells (putCells id 0 (flatK enc k d) cur) e (0,0)):=by
   unfold sortWorldK;rw[heap_grow_old _ _ (by unfold putRowK;simpa using hlt)];unfold putRowK putRow mapBlock;simp only[akI,heap_ahead,if_true,hh];rfl
  refine⟨⟨by rw[tJ enc k hk,ag2,hd];exact hn.symm, .inr ⟨g,cap,_,rfl,hb,agC,hc,hm,by unfold putCells;simpa using hs, ?_⟩⟩, ?_⟩
  ·have fG:n*k<=cur.size:=by rw[hs];exact Nat.mul_le_mul_right k hc
   apply List.ext_getElem?;intro t;by_cases htk:t<n*k
   ·rw[List.getElem?_take_of_lt htk];have AZ:t<d.toList.length*k:=by rw[ag2,hd];omega
    rw[flat_get enc k hk h0 d.toList t AZ];unfold putCells;have htc:t<cur.size:=by omega
    have htd:t<d.size*k:=by simpa using AZ
    simp only[Array.getElem?_toList,Array.getElem?_mapIdx];rw[Array.getElem?_eq_getElem htc];simp only[Option.map_some,Nat.zero_le,true_and,size_flatK,ahi,if_pos htd,Nat.sub_zero,id];rw[get_flatK enc k d t htd,ahV d (t / k)]
   ·rw[akK (by simp;omega),akK (by rw[tJ enc k hk,ag2,hd];omega)]
  ·refine⟨rfl,rfl,rfl,by unfold sortWorldK putRowK;simp,λi hi dL=> ?_⟩;unfold sortWorldK;rw[heap_grow_old _ _ (by unfold putRowK;simpa using hi)];unfold putRowK putRow mapBlock;have:g≠i:=λh=>dL (by rw[h]);simp[akI,this]
end
end Go.Proofs.YtadnmegdbllaoaaGreatDoor
namespace Go.Proofs.YtadnmegdbllaoaaGreatDoor
open Go.RowKit Go.Sort Go.Lib Go.Shelf Tryz
theorem Za(x y:Run):ltOf (λx y:Run=>ahl x.1 y.1) x y=decide (x.1<y.1):=by
 unfold ltOf ahl;by_cases h1:x.1<y.1
 ·simp[h1]
 ·by_cases h2:y.1<x.1<;>simp[h1,h2]
theorem al4:SWO (ltOf λx y:Run=>ahl x.1 y.1) where
 irrefl x:=by rw[Za];simp
 trans x y z h1 h2:=by rw[Za]at *;simp at *;omega
 ntrans x y z h1 h2:=by rw[Za]at *;simp at *;omega
theorem TT(x y:Run)(W:World):Calls prog 152 #[.agg #[.int .i64 x.1, .int .i64 x.2], .agg #[.int .i64 y.1, .int .i64 y.2]] W λe w'=>e= .returned (.int .i64 (ahl x.1 y.1))/\∃q os',w'=grow (W.drewN q) os':=by
 have Yv:=λW'=>AnyG.cmp_Compare_int Tryz.cmpInt x.1 y.1 W';change ∀W',Calls prog 153 _ _ _ at Yv;generalize ahl x.1 y.1=r at Yv ⊢;go_enter func152,ntmps152
 go_wp2_with (go_at_call 153;refine(Yv _).mono ?_;rintro e w' ⟨rfl,rfl⟩)
 go_ret;exact⟨rfl,0,_,by rw[alloc_eq_grow,alloc_eq_grow,grow_grow];rfl⟩
theorem aaY:SortSaid:=by
 intro v l base w ho hl;have eg:∀args w,(callFunc 152 args).run prog w= .ok (.enter 152 args) w:=enters_of func152 aV rfl;rcases ho.2 with⟨rfl,h0⟩ | ⟨g,cap,cur,rfl,hb,hh,hc⟩
 ·have qh:l= []:=List.eq_nil_of_length_eq_zero h0;subst qh;refine Calls.mono (AnyF.slices_SortFunc_none Tryz.sortRun none 0 _ w) ?_;rintro e w' ⟨rfl,rfl⟩;exact⟨rfl,⟨[],List.Perm.refl _,List.Pairwise.nil,ho⟩,World.grownBy.refl _ _⟩
 ·have hlt:g<w.heap.size:=(ho.lt g rfl).2;have hH:HoldsK encR 2 w g 0 l.toArray:=aaX encR 2 (λ_=>rfl) ak rfl ho;have Yv:=AnyQ.slices_SortFunc Tryz.sortRun 2 Tryz.isAgg102 Tryz.sizeOf102 encR (λ_=>rfl) (λx v hv=>by simp[encR]at hv;rcases hv with rfl | rfl<;>rfl) (λx y=>ahl x.1 y.1) al4 152 #[] g 0 cap l.toArray w eg (λ_ _ _ _ x y=>TT x y _) hH hlt (by simp;omega);refine Calls.mono Yv ?_;rintro e w' ⟨rfl,d',n,os,hp,hs,rfl⟩;obtain⟨hp1,_,hp3⟩:=hp;have fG:d'.size=l.length:=by rw[hp1];simp
  obtain⟨h1,h2⟩:=Xq encR 2 (λ_=>rfl) ak (l:=l) rfl ho n d' os fG
  have asX:d'.toList.Perm l:=by
   have e1:d'.extract 0 l.toArray.size=d':=by rw[<-hp1];simp
   have e2:l.toArray.extract 0 l.toArray.size=l.toArray:=by simp
   rw[e1,e2]at hp3;simpa using hp3
  refine⟨rfl,⟨d'.toList,asX, ?_, ?_⟩,h2⟩
  ·rw[List.pairwise_iff_getElem];intro i j hi hj hij;have:=hs i j (Nat.zero_le _) hij (by simp at hj;simp;omega);rw[Za]at this;simp at this hi hj;rw[getElem!_pos d' i hi,getElem!_pos d' j hj]at this;simp only[Array.getElem_toList];exact this
  ·unfold Own;have e:d'.toList.length=l.length:=by rw[ag2,fG]
   rw[e];exact h1
end Go.Proofs.YtadnmegdbllaoaaGreatDoor
namespace Go.Proofs.YtadnmegdbllaoaaGreatDoor
open Go.RowKit Tryz
def oQ(o:List Run)(w:World)(e:Ending)(w':World):Prop:=∃v,e= .returned v/\Own w' w.heap.size v o/\Below w.heap.size w w'
theorem Kq(A:Option Addr)(c:Nat)(l:List Run)(w:World)(hr:RS w w.heap.size A l)(hl:l.length<=1000000):Calls prog 118 #[.slice A l.length c] w (oQ (Rp.norm l) w):=aaW aaY A c l w hr hl
theorem aei(l:List Run):∀y∈Rp.norm l,V5 y:=AL _ 0 (Int.le_refl _) (Rp.xH l).1
def V6(l:List Run)(k:Nat):List Run × Int:=(l.take k).foldl Rp.gY ([],0)
theorem TU(l:List Run)(k:Nat)(hk:k<l.length):V6 l (k+1)=Rp.gY (V6 l k) l[k]:=by
 unfold V6;rw[List.take_succ_eq_append_getElem hk,List.foldl_append];rfl
theorem al5(l:List Run)(hl:∀y∈l,V5 y)(k:Nat):(V6 l k).1.length<=k/\0<=(V6 l k).2/\(V6 l k).2<=4294967296:=by
 induction k with
 |zero=>simp[V6]
 |succ k ih=>
  by_cases hk:k<l.length
  ·rw[TU l k hk];have hy:=hl _ (acT hk);unfold V5 at hy;obtain⟨h1,h2,h3⟩:=ih;unfold Rp.gY;simp only;refine⟨?_,by omega,by omega⟩;split
   ·simp;omega
   ·omega
  ·have e:V6 l (k+1)=V6 l k:=by unfold V6;rw[acQ ak,acQ ak]
   rw[e];exact⟨by omega,ih.2⟩
theorem D7(A:Option Addr)(c:Nat)(l:List Run)(w:World)(hr:RS w w.heap.size A l)(hl:l.length<=500000):Calls prog 84 #[.slice A l.length c] w (oQ (Rp.rest l) w):=by
 have hc:=Kq A c l w hr ak;have Dx:=D6 l;have pW:=aei l;obtain⟨s,hs⟩:=aJ (Rp.norm l);have hre:Rp.rest l=Rp.oM (V6 s s.length):=by unfold V6 Rp.rest;rw[acQ aK,hs]
 obtain⟨o,ho⟩:=aJ (Rp.rest l);rw[<-ho]at hre ⊢;rw[<-hs]at hc Dx pW;have HRE:=ah hre;have HC:=ah hc;clear hre hc hs ho;go_enter func84,ntmps84
 go_wp2_with fail
 refine HC.out.mono ?_;rintro e w1 ⟨v1,rfl,ho1,bD⟩;obtain⟨A1,c1,rfl⟩:=ho1.form;have hrs:=ho1.rs;have gI:=bD.size;go_wp2
 go_loopw [3,4,10] (λv f i wr=>∃k:Nat,k<=s.length/\i= .int .i64 k/\Own wr w1.heap.size v (V6 s k).1/\f= .int .i64 (V6 s k).2/\Below w1.heap.size w1 wr) (λ_ _ i _=>s.length-(intOf i).toNat)
 case atStart=>exact⟨0,by omega,rfl,Own.nil_ _ _,rfl,aU⟩
 case round=>
  obtain⟨k,hk,rfl,dh,rfl,fM⟩:=hrel;obtain⟨q1,q2,q3⟩:=al5 s pW k;by_cases hlt:k<s.length
  ·obtain⟨b1,o1,rfl,_,g0,g1⟩:=(hrs.below fM).at_ hlt;have hsu:=TU s k hlt;have hy:=pW _ (acT hlt);generalize V6 s k=st at*;have HSU:=ah hsu;clear hsu;generalize s[k]=y at*;obtain⟨a,b⟩:=y;obtain⟨q,f⟩:=st;unfold V5 at hy;simp only at hy q1 q2 q3 dh g0 g1;have rP:wr.ownsRow w1.heap.size 102 2 u3 q.length (iH q):=dh;by_cases hf:f<a
   ·go_wp2_with (at_builtin;refine fA rfl _ _ 100 rfl Hq underlying100 rfl ay rfl (agJ rP _) rfl aH rfl (by simp[agI]) (by unfold maxLen;omega) ak (by have:=fM.size;simp;omega) ?_;intro v' w2 eG jT iT _ _;have hyb:aO w2 wr.heap.size 102 #[.int .i64 a, .int .i64 b]:=(aO.new wr _ _).grown jT (λe=>absurd (rP.lt _ e.symm).2 (Nat.lt_irrefl _));have y1:w2.cell? ⟨wr.heap.size,1,none⟩=some (.int .i64 b):=hyb.cell 1)
    go_roundw
    case rel=>
     refine⟨k+1,by omega,by go_num, ?_, ?_,(fM.alloc fM.size _).trans iT⟩
     ·rw[HSU.out];simp only[Rp.gY,if_pos hf];exact zB (y:=(f,a-1)) eG
     ·rw[HSU.out];simp only[Rp.gY]
    case measure=>simp[intOf];omega
   ·go_wp2
    go_roundw
    case rel=>
     refine⟨k+1,by omega,by go_num, ?_, ?_,fM.alloc fM.size _⟩
     ·rw[HSU.out];simp only[Rp.gY,if_neg (by omega:¬f<a)];exact agJ rP _
     ·rw[HSU.out];simp only[Rp.gY]
    case measure=>simp[intOf];omega
  ·obtain rfl:k=s.length:=by omega
   generalize V6 s s.length=st at*;obtain⟨q,f⟩:=st;simp only at q1 q2 q3 dh;have rP:wr.ownsRow w1.heap.size 102 2 u3 q.length (iH q):=dh;by_cases hf:f<=4294967295
   ·go_wp2_with (at_builtin;refine fA rfl _ _ 100 rfl Hq underlying100 rfl ay rfl rP rfl aH rfl (by simp[agI]) (by unfold maxLen;omega) ak fM.size ?_;intro v' w2 eG jT iT _ _)
    go_ret;refine⟨_,rfl, ?_,bD.trans ((fM.trans iT).mono gI)⟩;rw[HRE.out,Rp.oM,if_pos (show f<=Rp.Most from hf)];exact(zB (y:=(f,4294967295)) eG).lower gI
   ·go_wp2;go_ret;refine⟨_,rfl, ?_,bD.trans (fM.mono gI)⟩;rw[HRE.out,Rp.oM,if_neg (show ¬f<=Rp.Most from by show ¬f<=4294967295;omega)];exact dh.lower gI
end Go.Proofs.YtadnmegdbllaoaaGreatDoor
