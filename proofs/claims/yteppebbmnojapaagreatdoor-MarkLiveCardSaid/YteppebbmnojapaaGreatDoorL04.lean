/- Part of this proof. -/
import Derived.Shelf.GgSortFunc.InsertionK
import Derived.Shelf.SlSortCmp.NoneTotal
import Derived.Test.YteppebbmnojapaaGreatDoorL02
import Derived.Test.YteppebbmnojapaaGreatDoorL03
set_option maxRecDepth 100000
set_option maxHeartbeats 8000000
namespace Go.Proofs.YteppebbmnojapaaGreatDoor
open Go.RowKit Go.Sort
section
variable {α:Type} [Inhabited α](enc:α->List Value)(k:Nat)
theorem YJ(d:Array α)(i:Nat):d.toList[i]! =d[i]! :=by
 rw[List.getElem!_eq_getElem?_getD,Array.getElem!_eq_getD,Array.getD_eq_getD_getElem?,Array.getElem?_toList]
theorem flat_get(hk:∀x,(enc x).length=k)(h0:0<k):∀ (l:List α) (t:Nat),t<l.length*k->(l.flatMap enc)[t]? =some (enc l[t / k]!)[t % k]!
 | [],t,h=>by simp at h
 |x::l,t,h=>by
  rw[List.flatMap_cons]
  by_cases ht:t<k
  ·rw[List.getElem?_append_left (by rw[hk];exact ht),Nat.div_eq_of_lt ht,Nat.mod_eq_of_lt ht]
   have hl:t<(enc x).length:=by rw[hk];exact ht
   simp[hl]
  ·have hk':k<=t:=by omega
   have hlt:t-k<l.length*k:=by rw[List.length_cons,Nat.add_mul]at h;omega
   rw[List.getElem?_append_right (by rw[hk];exact hk'),hk,flat_get hk h0 l (t-k) hlt]
   have e1:t / k=(t-k) / k+1:=by rw[<-Nat.sub_add_cancel hk',Nat.add_div_right _ h0];simp
   have e2:t % k=(t-k) % k:=by rw[<-Nat.sub_add_cancel hk',Nat.add_mod_right];simp
   rw[e1,e2]
   simp
omit [Inhabited α]in
theorem kG(hk:∀x,(enc x).length=k)(l:List α):(l.flatMap enc).length=l.length*k:=by
 induction l with
 |nil=>simp
 |cons x l ih=>rw[List.flatMap_cons,List.length_append,ih,hk,List.length_cons,Nat.add_mul];omega
theorem QL{w:World}{base e g cap n:Nat}{xs:List Value}(hk:∀x,(enc x).length=k)(h0:0<k){l:List α}(hx:xs=l.flatMap enc)
  (h:w.ownsRow base e k (.slice (some ⟨g,0,none⟩) n cap) n xs):HoldsK enc k w g 0 l.toArray:=by
 subst hx
 have hn:n*k=l.length*k:=by have:=h.1;rw[kG enc k hk]at this;exact this.symm
 intro j hj
 rw[size_flatK]at hj
 have hj':j<l.length*k:=by simpa using hj
 refine⟨?_, ?_⟩
 ·rw[Nat.zero_add,h.cellAt j (by rw[hn];exact hj'),flat_get enc k hk h0 l j hj',get_flatK enc k _ j hj]
  simp
 ·rw[Nat.zero_add];exact h.frozenAt j
theorem ML{w:World}{base e g cap n:Nat}{xs:List Value}(hk:∀x,(enc x).length=k)(h0:0<k){l:List α}(hx:xs=l.flatMap enc)
  (h:w.ownsRow base e k (.slice (some ⟨g,0,none⟩) n cap) n xs) (m:Nat) (d:Array α) (os:Array Obj) (hd:d.size=l.length):
  (sortWorldK enc k w g 0 m d os).ownsRow base e k (.slice (some ⟨g,0,none⟩) n cap) n (d.toList.flatMap enc)/\w.grownBy (sortWorldK enc k w g 0 m d os) (some g):=by
 subst hx
 have hn:n*k=l.length*k:=by have:=h.1;rw[kG enc k hk]at this;exact this.symm
 rcases h.2 with⟨hv,_⟩ | ⟨g',cap',cur,hv,hb,hh,hc,hm,hs,ht⟩
 ·cases hv
 ·injection hv with e1 e2 e3
  injection e1 with e1
  injection e1 with e1
  subst e1 e3
  have hlt:g<w.heap.size:=by
   rcases Nat.lt_or_ge g w.heap.size with hlt | hge
   ·exact hlt
   ·rw[Array.getElem?_eq_none hge]at hh;cases hh
  have hheap:(sortWorldK enc k w g 0 m d os).heap[g]? =some (.cells (putCells id 0 (flatK enc k d) cur) e (0,0)):=by
   unfold sortWorldK
   rw[heap_grow_old _ _ (by unfold putRowK;simpa using hlt)]
   unfold putRowK putRow mapBlock
   simp only[Array.getElem?_modify,heap_ahead,if_true,hh]
   rfl
  refine⟨⟨by rw[kG enc k hk,Array.length_toList,hd];exact hn.symm, .inr ⟨g,cap,_,rfl,hb,hheap,hc,hm,by unfold putCells;simpa using hs, ?_⟩⟩, ?_⟩
  ·have hsz:n*k<=cur.size:=by rw[hs];exact Nat.mul_le_mul_right k hc
   apply List.ext_getElem?
   intro t
   by_cases htk:t<n*k
   ·rw[List.getElem?_take_of_lt htk]
    have ht2:t<d.toList.length*k:=by rw[Array.length_toList,hd];omega
    rw[flat_get enc k hk h0 d.toList t ht2]
    unfold putCells
    have htc:t<cur.size:=by omega
    have htd:t<d.size*k:=by simpa using ht2
    simp only[Array.getElem?_toList,Array.getElem?_mapIdx]
    rw[Array.getElem?_eq_getElem htc]
    simp only[Option.map_some,Nat.zero_le,true_and,size_flatK,Nat.zero_add,if_pos htd,Nat.sub_zero,id]
    rw[get_flatK enc k d t htd,YJ d (t / k)]
   ·rw[List.getElem?_eq_none (by simp;omega),List.getElem?_eq_none (by rw[kG enc k hk,Array.length_toList,hd];omega)]
  ·refine⟨rfl,rfl,rfl,by unfold sortWorldK putRowK;simp,fun i hi hne=> ?_⟩
   unfold sortWorldK
   rw[heap_grow_old _ _ (by unfold putRowK;simpa using hi)]
   unfold putRowK putRow mapBlock
   have:g≠i:=fun h=>hne (by rw[h])
   simp[Array.getElem?_modify,this]
end
end Go.Proofs.YteppebbmnojapaaGreatDoor
namespace Go.Proofs.YteppebbmnojapaaGreatDoor
open Go.RowKit Go.Sort Go.Lib Go.Shelf
theorem Po(x y:Run):ltOf (fun x y:Run=>Lib.compareInt x.1 y.1) x y=decide (x.1<y.1):=by
 unfold ltOf Lib.compareInt
 by_cases h1:x.1<y.1
 ·simp[h1]
 ·by_cases h2:y.1<x.1<;>simp[h1,h2]
theorem aa9:SWO (ltOf fun x y:Run=>Lib.compareInt x.1 y.1) where
 irrefl x:=by rw[Po];simp
 trans x y z h1 h2:=by rw[Po]at *;simp at *;omega
 ntrans x y z h1 h2:=by rw[Po]at *;simp at *;omega
theorem IQ(x y:Run)(W:World):Calls Tryz.prog 87 #[.agg #[.int .i64 x.1, .int .i64 x.2], .agg #[.int .i64 y.1, .int .i64 y.2]] W fun e w'=>e= .returned (.int .i64 (Lib.compareInt x.1 y.1))/\∃q os',w'=grow (W.drewN q) os':=by
 have hcon:=fun W'=>AnyG.cmp_Compare_int Tryz.cmpInt x.1 y.1 W'
 change ∀W',Calls Tryz.prog 88 _ _ _ at hcon
 generalize Lib.compareInt x.1 y.1=r at hcon ⊢
 go_enter Tryz.func87,Tryz.ntmps87
 go_wp2_with (go_at_call 88;refine(hcon _).mono ?_;rintro e w' ⟨rfl,rfl⟩)
 go_ret
 exact⟨rfl,0,_,by rw[alloc_eq_grow,alloc_eq_grow,grow_grow];rfl⟩
theorem xJ:SortSaid:=by
 intro v l base w ho hl
 have eg:∀args w,(callFunc 87 args).run Tryz.prog w= .ok (.enter 87 args) w:=enters_of Tryz.func87 (by kernel_rfl) rfl
 rcases ho.2 with⟨rfl,h0⟩ | ⟨g,cap,cur,rfl,hb,hh,hc⟩
 ·have hl0:l= []:=List.eq_nil_of_length_eq_zero h0
  subst hl0
  refine Calls.mono (AnyF.slices_SortFunc_none Tryz.sortRun none 0 _ w) ?_
  rintro e w' ⟨rfl,rfl⟩
  exact⟨rfl,⟨[],List.Perm.refl _,List.Pairwise.nil,ho⟩,World.grownBy.refl _ _⟩
 ·have hlt:g<w.heap.size:=(ho.lt g rfl).2
  have hH:HoldsK encR 2 w g 0 l.toArray:=QL encR 2 (fun _=>rfl) (by omega) rfl ho
  have hcon:=AnyQ.slices_SortFunc Tryz.sortRun 2 Tryz.isAgg64 Tryz.sizeOf64 encR (fun _=>rfl) (fun x v hv=>by simp[encR]at hv;rcases hv with rfl | rfl<;>rfl) (fun x y=>Lib.compareInt x.1 y.1) aa9 87 #[] g 0 cap l.toArray w eg (fun _ _ _ _ x y=>IQ x y _) hH hlt (by simp;omega)
  refine Calls.mono hcon ?_
  rintro e w' ⟨rfl,d',n,os,hp,hs,rfl⟩
  obtain⟨hp1,_,hp3⟩:=hp
  have hsz:d'.size=l.length:=by rw[hp1];simp
  obtain⟨h1,h2⟩:=ML encR 2 (fun _=>rfl) (by omega) (l:=l) rfl ho n d' os hsz
  have hperm:d'.toList.Perm l:=by
   have e1:d'.extract 0 l.toArray.size=d':=by rw[<-hp1];simp
   have e2:l.toArray.extract 0 l.toArray.size=l.toArray:=by simp
   rw[e1,e2]at hp3
   simpa using hp3
  refine⟨rfl,⟨d'.toList,hperm, ?_, ?_⟩,h2⟩
  ·rw[List.pairwise_iff_getElem]
   intro i j hi hj hij
   have:=hs i j (Nat.zero_le _) hij (by simp at hj;simp;omega)
   rw[Po]at this
   simp at this hi hj
   rw[getElem!_pos d' i hi,getElem!_pos d' j hj]at this
   simp only[Array.getElem_toList]
   exact this
  ·unfold Own
   have e:d'.toList.length=l.length:=by rw[Array.length_toList,hsz]
   rw[e]
   exact h1
end Go.Proofs.YteppebbmnojapaaGreatDoor
namespace Rp
def dA(st:List Run × Int)(r:Run):List Run × Int:=(if st.2<r.1 then st.1++ [(st.2,r.1-1)]else st.1,r.2+1)
def jE(st:List Run × Int):List Run:=if st.2<=Most then st.1++ [(st.2,Most)]else st.1
def rest(l:List Run):List Run:=jE ((norm l).foldl dA ([],0))
theorem QM(l:List Run):∀ (out:List Run) (from_ lo:Int),Canon lo l->from_<=lo->0<=from_->Canon 0 out->(∀y,out.getLast? =some y->y.2+2<=from_)->from_<=Most+1->
  Canon 0 (jE (l.foldl dA (out,from_)))/\∀n,Mem (jE (l.foldl dA (out,from_))) n ↔ Mem out n\/(from_<=n/\n<=Most/\¬Mem l n):=by
 induction l with
 |nil=>
  intro out f lo _ _ h0 ho hl hm
  by_cases hle:f<=Most
  ·have e:jE ([].foldl dA (out,f))=out++ [(f,Most)]:=if_pos hle
   rw[e]
   refine⟨fM.2 ⟨ho, ?_⟩,fun n=> ?_⟩
   ·rcases hg:out.getLast? with _ | y
    ·exact⟨h0,hle,Int.le_refl _,trivial⟩
    ·exact⟨hl y hg,hle,Int.le_refl _,trivial⟩
   ·rw[mem_append,mem_cons];simp[dO]
  ·have e:jE ([].foldl dA (out,f))=out:=if_neg hle
   rw[e]
   refine⟨ho,fun n=>⟨.inl, ?_⟩⟩
   rintro(h | h)
   ·exact h
   ·omega
 |cons r l ih=>
  intro out f lo h hlo h0 ho hl hm
  obtain⟨g1,g2,g3,g4⟩:=h
  rw[List.foldl_cons]
  unfold dA
  simp only
  by_cases hf:f<r.1
  ·rw[if_pos hf]
   have hc:Canon 0 (out++ [(f,r.1-1)]):=fM.2 ⟨ho,by
    rcases hg:out.getLast? with _ | y
    ·exact⟨h0,by simp only;omega,by simp only;omega,trivial⟩
    ·exact⟨hl y hg,by simp only;omega,by simp only;omega,trivial⟩⟩
   obtain⟨i1,i2⟩:=ih (out++ [(f,r.1-1)]) (r.2+1) (r.2+2) g4 (by omega) (by omega) hc (fun y hy=>by simp at hy;subst hy;simp only;omega) (by omega)
   refine⟨i1,fun n=> ?_⟩
   show Mem (jE (l.foldl dA (out++ [(f,r.1-1)],r.2+1))) n ↔ _
   rw[i2,mem_append,mem_cons,mem_cons]
   simp only[dO,or_false]
   constructor
   ·rintro((h | h) | h)
    ·exact .inl h
    ·refine .inr ⟨h.1,by omega, ?_⟩
     rintro(h' | h')
     ·omega
     ·have:=g4.ge h';omega
    ·refine .inr ⟨by omega,h.2.1, ?_⟩
     rintro(h' | h')
     ·omega
     ·exact h.2.2 h'
   ·rintro(h | ⟨h1,h2,h3⟩)
    ·exact .inl (.inl h)
    ·by_cases hn:n<=r.1-1
     ·exact .inl (.inr ⟨h1,hn⟩)
     ·refine .inr ⟨?_,h2,fun h'=>h3 (.inr h')⟩
      rcases Int.lt_or_le r.2 n with h4 | h4
      ·omega
      ·exact absurd (.inl ⟨by omega,h4⟩) h3
  ·rw[if_neg hf]
   have hl':∀y,out.getLast? =some y->y.2+2<=r.2+1:=fun y hy=>by have:=hl y hy;omega
   obtain⟨i1,i2⟩:=ih out (r.2+1) (r.2+2) g4 (by omega) (by omega) ho hl' (by omega)
   refine⟨i1,fun n=> ?_⟩
   show Mem (jE (l.foldl dA (out,r.2+1))) n ↔ _
   rw[i2,mem_cons]
   constructor
   ·rintro(h | h)
    ·exact .inl h
    ·refine .inr ⟨by omega,h.2.1, ?_⟩
     rintro(h' | h')
     ·omega
     ·exact h.2.2 h'
   ·rintro(h | ⟨h1,h2,h3⟩)
    ·exact .inl h
    ·refine .inr ⟨?_,h2,fun h'=>h3 (.inr h')⟩
     rcases Int.lt_or_le r.2 n with h4 | h4
     ·omega
     ·exact absurd (.inl ⟨by omega,h4⟩) h3
theorem zW(l:List Run):Canon 0 (rest l)/\∀n,Mem (rest l) n ↔ 0<=n/\n<=Most/\¬Mem l n:=by
 obtain⟨c,m⟩:=dw l
 obtain⟨i1,i2⟩:=QM (norm l) [] 0 0 c (Int.le_refl _) (Int.le_refl _) trivial (fun y hy=>by simp at hy) (by unfold Most;omega)
 refine⟨i1,fun n=> ?_⟩
 unfold rest
 rw[i2,m]
 simp only[dO,false_or]
 constructor
 ·rintro⟨h1,h2,h3⟩;exact⟨h1,h2,fun h=>h3 ⟨h,h1,h2⟩⟩
 ·rintro⟨h1,h2,h3⟩;exact⟨h1,h2,fun h=>h3 h.1⟩
theorem Gx(l:List Run):∀st:List Run × Int,(l.foldl dA st).1.length<=st.1.length+l.length:=by
 induction l with
 |nil=>intro st;simp
 |cons r l ih=>
  intro st
  rw[List.foldl_cons,List.length_cons]
  have h:=ih (dA st r)
  have h2:(dA st r).1.length<=st.1.length+1:=by unfold dA;simp only;split<;>simp
  omega
theorem U7(l:List Run):(rest l).length<=(norm l).length+1:=by
 have h:=Gx (norm l) ([],0)
 unfold rest jE
 split<;>simp at h ⊢ <;>omega
def union(a b:List Run):List Run:=norm (a++b)
theorem qJ(a b:List Run):Canon 0 (union a b)/\∀n,Mem (union a b) n ↔ (Mem a n\/Mem b n)/\0<=n/\n<=Most:=by
 obtain⟨c,m⟩:=dw (a++b)
 exact⟨c,fun n=>by unfold union;rw[m,mem_append]⟩
def meet(a b:List Run):List Run:=rest (union (rest a) (rest b))
theorem lS(a b:List Run):Canon 0 (meet a b)/\∀n,Mem (meet a b) n ↔ 0<=n/\n<=Most/\Mem a n/\Mem b n:=by
 obtain⟨c,m⟩:=zW (union (rest a) (rest b))
 refine⟨c,fun n=> ?_⟩
 unfold meet
 rw[m,(qJ _ _).2,(zW a).2,(zW b).2]
 by_cases h0:0<=n<;>by_cases h1:n<=Most<;>by_cases ha:Mem a n<;>by_cases hb:Mem b n<;>simp[h0,h1,ha,hb]
def minus(a b:List Run):List Run:=meet a (rest b)
theorem iY(a b:List Run):Canon 0 (minus a b)/\∀n,Mem (minus a b) n ↔ 0<=n/\n<=Most/\Mem a n/\¬Mem b n:=by
 obtain⟨c,m⟩:=lS a (rest b)
 refine⟨c,fun n=> ?_⟩
 unfold minus
 rw[m,(zW b).2]
 constructor
 ·rintro⟨h0,h1,h2,h3⟩;exact⟨h0,h1,h2,h3.2.2⟩
 ·rintro⟨h0,h1,h2,h3⟩;exact⟨h0,h1,h2,h0,h1,h3⟩
theorem sD(x n:Int):Mem [(x,x)] n ↔ n=x:=by
 rw[mem_cons];simp only[dO,or_false];omega
def has(l:List Run)(n:Int):Bool:=decide (0<=n)&&decide (n<=Most)&&l.any fun r=>decide (r.1<=n)&&decide (n<=r.2)
theorem zX(l:List Run)(n:Int):has l n=true ↔ 0<=n/\n<=Most/\Mem l n:=by
 unfold has Mem
 simp only[Bool.and_eq_true,decide_eq_true_eq,List.any_eq_true,and_assoc]
def size(l:List Run):Int:=(l.map fun r=>r.2-r.1+1).sum
def count(l:List Run):Int:=size (norm l)
def first(l:List Run):Option Int:=(norm l).head?.map (·.1)
theorem uO{l:List Run}(h:Canon 0 l):norm l=l:=by
 obtain⟨c,m⟩:=dw l
 refine iL _ _ _ _ c h fun n=> ?_
 rw[m]
 exact⟨fun h=>h.1,fun hm=>⟨hm,h.ge hm,h.le hm⟩⟩
end Rp
namespace Go.Proofs.YteppebbmnojapaaGreatDoor
open Go.RowKit
def gW(o:List Run)(w:World)(e:Ending)(w':World):Prop:=∃v,e= .returned v/\Own w' w.heap.size v o/\Below w.heap.size w w'
theorem kH(A:Option Addr)(c:Nat)(l:List Run)(w:World)(hr:RS w w.heap.size A l)(hl:l.length<=1000000):Calls Tryz.prog 33 #[.slice A l.length c] w (gW (Rp.norm l) w):=EK xJ A c l w hr hl
theorem U8(l:List Run):∀y∈Rp.norm l,InR y:=oC _ 0 (Int.le_refl _) (Rp.dw l).1
def rAt(l:List Run)(k:Nat):List Run × Int:=(l.take k).foldl Rp.dA ([],0)
theorem IU(l:List Run)(k:Nat)(hk:k<l.length):rAt l (k+1)=Rp.dA (rAt l k) l[k]:=by
 unfold rAt
 rw[List.take_succ_eq_append_getElem hk,List.foldl_append];rfl
theorem abb(l:List Run)(hl:∀y∈l,InR y)(k:Nat):(rAt l k).1.length<=k/\0<=(rAt l k).2/\(rAt l k).2<=4294967296:=by
 induction k with
 |zero=>simp[rAt]
 |succ k ih=>
  by_cases hk:k<l.length
  ·rw[IU l k hk]
   have hy:=hl _ (List.getElem_mem hk)
   unfold InR at hy
   obtain⟨h1,h2,h3⟩:=ih
   unfold Rp.dA
   simp only
   refine⟨?_,by omega,by omega⟩
   split
   ·simp;omega
   ·omega
  ·have e:rAt l (k+1)=rAt l k:=by unfold rAt;rw[List.take_of_length_le (by omega),List.take_of_length_le (by omega)]
   rw[e];exact⟨by omega,ih.2⟩
theorem vZ(A:Option Addr)(c:Nat)(l:List Run)(w:World)(hr:RS w w.heap.size A l)(hl:l.length<=500000):Calls Tryz.prog 85 #[.slice A l.length c] w (gW (Rp.rest l) w):=by
 have hc:=kH A c l w hr (by omega)
 have hnl:=bC l
 have hin:=U8 l
 obtain⟨s,hs⟩:∃s,s=Rp.norm l:=⟨_,rfl⟩
 have hre:Rp.rest l=Rp.jE (rAt s s.length):=by unfold rAt Rp.rest;rw[List.take_of_length_le (Nat.le_refl _),hs]
 obtain⟨o,ho⟩:∃o,o=Rp.rest l:=⟨_,rfl⟩
 rw[<-ho]at hre ⊢
 rw[<-hs]at hc hnl hin
 have HRE:=Lib.hid hre
 have HC:=Lib.hid hc
 clear hre hc hs ho
 go_enter Tryz.func85,Tryz.ntmps85
 go_wp2_with fail
 refine HC.out.mono ?_
 rintro e w1 ⟨v1,rfl,ho1,hb1⟩
 obtain⟨A1,c1,rfl⟩:=ho1.form
 have hrs:=ho1.rs
 have hz1:=hb1.size
 go_wp2
 go_loopw [3,4,10] (fun v f i wr=>∃k:Nat,k<=s.length/\i= .int .i64 k/\Own wr w1.heap.size v (rAt s k).1/\f= .int .i64 (rAt s k).2/\Below w1.heap.size w1 wr) (fun _ _ i _=>s.length-(intOf i).toNat)
 case atStart=>exact⟨0,by omega,rfl,Own.nil_ _ _,rfl,Below.refl _ _⟩
 case round=>
  obtain⟨k,hk,rfl,hown,rfl,hbe⟩:=hrel
  obtain⟨q1,q2,q3⟩:=abb s hin k
  by_cases hlt:k<s.length
  ·obtain⟨b1,o1,rfl,_,g0,g1⟩:=(hrs.below hbe).at_ hlt
   have hsu:=IU s k hlt
   have hy:=hin _ (List.getElem_mem hlt)
   generalize rAt s k=st at*
   have HSU:=Lib.hid hsu
   clear hsu
   generalize s[k]=y at*
   obtain⟨a,b⟩:=y
   obtain⟨q,f⟩:=st
   unfold InR at hy
   simp only at hy q1 q2 q3 hown g0 g1
   have hown2:wr.ownsRow w1.heap.size 64 2 u3 q.length (bT q):=hown
   by_cases hf:f<a
   ·go_wp2_with (at_builtin;refine aU rfl _ _ 47 rfl qC Tryz.underlying47 rfl (by decide) rfl (World.ownsRow.alloc hown2 _) rfl (by simp) rfl (by simp[Value.oneCell']) (by unfold maxLen;omega) (by omega) (by have:=hbe.size;simp;omega) ?_;intro v' w2 hown' hgrow hbel _ _;have hyb:Blk w2 wr.heap.size 64 #[.int .i64 a, .int .i64 b]:=(Blk.new wr _ _).grown hgrow (fun e=>absurd (hown2.lt _ e.symm).2 (Nat.lt_irrefl _));have y1:w2.cell? ⟨wr.heap.size,1,none⟩=some (.int .i64 b):=hyb.cell 1)
    go_roundw
    case rel=>
     refine⟨k+1,by omega,by go_num, ?_, ?_,(hbe.alloc hbe.size _).trans hbel⟩
     ·rw[HSU.out];simp only[Rp.dA,if_pos hf]
      exact mD (y:=(f,a-1)) hown'
     ·rw[HSU.out];simp only[Rp.dA]
    case measure=>simp[intOf];omega
   ·go_wp2
    go_roundw
    case rel=>
     refine⟨k+1,by omega,by go_num, ?_, ?_,hbe.alloc hbe.size _⟩
     ·rw[HSU.out];simp only[Rp.dA,if_neg (by omega:¬f<a)]
      exact World.ownsRow.alloc hown2 _
     ·rw[HSU.out];simp only[Rp.dA]
    case measure=>simp[intOf];omega
  ·obtain rfl:k=s.length:=by omega
   generalize rAt s s.length=st at*
   obtain⟨q,f⟩:=st
   simp only at q1 q2 q3 hown
   have hown2:wr.ownsRow w1.heap.size 64 2 u3 q.length (bT q):=hown
   by_cases hf:f<=4294967295
   ·go_wp2_with (at_builtin;refine aU rfl _ _ 47 rfl qC Tryz.underlying47 rfl (by decide) rfl hown2 rfl (by simp) rfl (by simp[Value.oneCell']) (by unfold maxLen;omega) (by omega) hbe.size ?_;intro v' w2 hown' hgrow hbel _ _)
    go_ret
    refine⟨_,rfl, ?_,hb1.trans ((hbe.trans hbel).mono hz1)⟩
    rw[HRE.out,Rp.jE,if_pos (show f<=Rp.Most from hf)]
    exact(mD (y:=(f,4294967295)) hown').lower hz1
   ·go_wp2
    go_ret
    refine⟨_,rfl, ?_,hb1.trans (hbe.mono hz1)⟩
    rw[HRE.out,Rp.jE,if_neg (show ¬f<=Rp.Most from by show ¬f<=4294967295;omega)]
    exact hown.lower hz1
end Go.Proofs.YteppebbmnojapaaGreatDoor
