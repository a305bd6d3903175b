/- Part of this proof. -/
import Derived.WalkKit
import Derived.WalkSpells
import Derived.WalkLawsBesides
import Derived.KernelRfl
import Derived.Lib.Hide
import Derived.BigQuiet
import Derived.Deep.QuietTactic
import Derived.Deep.Draws
import Derived.Deep.AppendLies
import Derived.Maps.AppendAt
import Derived.RegionTactic
import Derived.Lib.MinMax
import Derived.Test.YteppebbmnojapaaGreatDoorChecked
set_option maxRecDepth 100000
set_option maxHeartbeats 8000000
namespace Go.Proofs.YteppebbmnojapaaGreatDoor
open Go.RowKit
theorem jD(a:Addr)(n:Nat):(a.add n).block=a.block:=by unfold Addr.add;split<;>rfl
theorem MC(a:Addr)(i j:Nat):(a.add i).add j=a.add (i+j):=by
 unfold Addr.add
 by_cases hi:i=0<;>by_cases hj:j=0<;>simp[hi,hj,Nat.add_assoc]
def Reads(w:World)(B size:Nat)(A:Option Addr)(n:Nat)(xs:List Value):Prop:=
 xs.length=n*size/\(0<n->∃ad,A=some ad/\ad.block<B/\∀j u,xs[j]? =some u->w.cell? (ad.add j)=some u)
section
variable {w w':World}{B B' size n:Nat}{A:Option Addr}{xs:List Value}
theorem Reads.keep(h:Reads w B size A n xs)(hk:∀p:Addr,p.block<B->w'.cell? p=w.cell? p):Reads w' B size A n xs:=
 ⟨h.1,fun hn=>by
  obtain⟨ad,e,hb,hc⟩:=h.2 hn
  exact⟨ad,e,hb,fun j u hu=>(hk _ (by rw[jD];exact hb)).trans (hc j u hu)⟩⟩
theorem Reads.more(h:Reads w B size A n xs)(hB:B<=B'):Reads w B' size A n xs:=
 ⟨h.1,fun hn=>by
  obtain⟨ad,e,hb,hc⟩:=h.2 hn
  exact⟨ad,e,by omega,hc⟩⟩
theorem Reads.below(h:Reads w B size A n xs)(hb:Below B w w'):Reads w' B size A n xs:=h.keep fun _ hp=>hb.cell hp
theorem Reads.alloc(h:Reads w B size A n xs)(hB:B<=w.heap.size)(o:Obj):Reads (w.alloc o) B size A n xs:=h.keep fun p hp=>World.cell?_alloc_lt w o p (by omega)
theorem Reads.cut(h:Reads w B size A n xs){k cap:Nat}(hk:k<=n)(hc:n<=cap):
  Reads w B size (if cap=k then A else A.map (·.add (k*size))) (n-k) (xs.drop (k*size)):=by
 refine⟨by rw[List.length_drop,h.1,Nat.sub_mul],fun hn=> ?_⟩
 obtain⟨ad,rfl,hb,hcell⟩:=h.2 (by omega)
 rw[if_neg (by omega)]
 refine⟨ad.add (k*size),rfl,by rw[jD];exact hb,fun j u hu=> ?_⟩
 rw[MC]
 exact hcell _ u (by rw[<-hu,List.getElem?_drop])
theorem Reads.MF{base:Nat}{e:TypeId}{c:Nat}(h:w.ownsRow base e size (.slice A n c) n xs):Reads w w.heap.size size A n xs:=by
 refine⟨h.1,fun hn=> ?_⟩
 obtain⟨g,cap,hv,_,hlt⟩:=h.form hn
 have hA:A=some ⟨g,0,none⟩:=by injection hv
 subst hA
 exact⟨_,rfl,hlt,h.cells (g:=g) rfl⟩
end
def Blk(w:World)(g:Nat)(t:TypeId)(cs:Array Value):Prop:=w.heap[g]? =some (.cells cs t (0,0))
section
variable {w w':World}{g:Nat}{t:TypeId}{cs:Array Value}
theorem Blk.lt(h:Blk w g t cs):g<w.heap.size:=by
 rcases Nat.lt_or_ge g w.heap.size with hlt | hge
 ·exact hlt
 ·unfold Blk at h;rw[Array.getElem?_eq_none hge]at h;cases h
theorem Blk.cell(h:Blk w g t cs)(i:Nat):w.cell? ⟨g,i,none⟩=cs[i]? :=cell_of_row w g i cs t (0,0) h
theorem Blk.frozen(h:Blk w g t cs)(i:Nat):w.frozen? ⟨g,i,none⟩=false:=by
 unfold Blk at h
 simp[World.frozen?,h]
theorem Blk.new(w:World)(t:TypeId)(cs:Array Value):Blk (w.alloc (.cells cs t)) w.heap.size t cs:=heap_alloc_new w _
theorem Blk.drew(h:Blk w g t cs):Blk w.drew g t cs:=h
theorem Blk.alloc(h:Blk w g t cs)(o:Obj):Blk (w.alloc o) g t cs:=(Below.heap_alloc w o g h.lt).trans h
theorem Blk.aW(h:Blk w g t cs)(i:Nat)(u:Value):Blk (w.setCell ⟨g,i,none⟩ u) g t (cs.setIfInBounds i u):=by
 unfold Blk at h ⊢
 simp[World.setCell,Array.getElem?_modify,h]
theorem Blk.far(h:Blk w g t cs){p:Addr}(hp:g≠p.block)(u:Value):Blk (w.setCell p u) g t cs:=(Below.heap_setCell w p u g hp).trans h
theorem Blk.below{B:Nat}(h:Blk w g t cs)(hb:Below B w w')(hg:g<B):Blk w' g t cs:=(hb.block g hg).trans h
theorem Blk.grown{row:Option Nat}(h:Blk w g t cs)(hb:w.grownBy w' row)(hg:some g≠row):Blk w' g t cs:=(hb.block g h.lt hg).trans h
theorem Blk.ne_{g':Nat}{t':TypeId}{cs':Array Value}(h:Blk w g t cs)(h':Blk w g' t' cs')(hne:t≠t'):g≠g':=by
 rintro rfl
 unfold Blk at h h'
 rw[h]at h'
 injection h' with h'
 injection h' with _ ht
 exact hne ht
theorem aB{base:Nat}{e:TypeId}{size n:Nat}{v:Value}{xs:List Value}(h:w.ownsRow base e size v n xs)(hg:Blk w g t cs)(hne:e≠t):v.ownBlock≠some g:=by
 rcases h.2 with⟨rfl,_⟩ | ⟨g',cap,cur,rfl,_,hh,_⟩
 ·simp[Value.ownBlock]
 ·intro he
  have:g'=g:=by simpa[Value.ownBlock]using he
  subst this
  exact Blk.ne_ (t:=e) hh hg hne rfl
end
section
variable {P:Program}(w:World)
theorem vW(base:Nat)(t ty e:TypeId)(i:TypeInfo)(size:Nat)(ht:P.underlying t=some (.slice e))(hi:P.info? e=some i)
  (v:Value) (n:Nat) (xs:List Value) (hown:w.ownsRow base e size v n xs) (c:Nat):(Builtin.append_ #[t,t] ty #[v, .slice none 0 c]).run P w= .ok v w:=by
 rcases hown.2 with⟨rfl,rfl⟩ | ⟨g,cap,cur,rfl,_,_,hnc,_⟩
 ·simp[Builtin.append_,run_underlying ht,sizeOf,typeInfo,hi,Builtin.lenOf,Builtin.firstCells]
 ·simp[Builtin.append_,run_underlying ht,sizeOf,typeInfo,hi,Builtin.lenOf,Builtin.firstCells,hnc,storeCells]
theorem mg(base:Nat)(t ty e:TypeId)(i:TypeInfo)(z:Value)(size bytes:Nat)(ht:P.underlying t=some (.slice e))(hi:P.info? e=some i)(hz:i.zero=some z)
  (hsize:i.size=size) (hby:i.bytes=bytes) (hzs:z.cells.size=size) (hsz:0<size)
  (v:Value) (n:Nat) (xs:List Value) (hown:w.ownsRow base e size v n xs)
  (B:Nat) (A:Option Addr) (m c:Nat) (news:List Value) (hr:Reads w B size A m news) (h1:∀u∈news,u.oneCell'=true)
  (h63:n+m<=maxLen) (hbytes:(n+m)*bytes<=140737488355328) (hbase:base<=w.heap.size):
  ∃v' w',(Builtin.append_ #[t,t] ty #[v, .slice A m c]).run P w= .ok v' w'/\w'.ownsRow base e size v' (n+m) (xs++news)/\w.grownBy w' v.ownBlock/\
   (v'.ownBlock=v.ownBlock\/v'.ownBlock=some w.heap.size):=by
 rcases A with _ | ad
 ·have hm:m=0:=by
   rcases Nat.eq_zero_or_pos m with h0 | h0
   ·exact h0
   ·obtain⟨ad,h,_⟩:=hr.2 h0
    cases h
  subst hm
  have hn:news= []:=List.eq_nil_of_length_eq_zero (by simpa using hr.1)
  subst hn
  exact⟨v,w,vW w base t ty e i size ht hi v n xs hown c,by simpa using hown,World.grownBy.refl w _, .inl rfl⟩
 ·have hcells:∀j u,news[j]? =some u->w.cell? (ad.add j)=some u:=by
   intro j u hu
   rcases Nat.eq_zero_or_pos m with h0 | h0
   ·subst h0
    have hn:news= []:=List.eq_nil_of_length_eq_zero (by simpa using hr.1)
    subst hn
    simp at hu
   ·obtain⟨ad',h,_,hc⟩:=hr.2 h0
    injection h with h
    subst h
    exact hc j u hu
  obtain⟨v',w',hrun,h2,h3,_,h5⟩:=run_append_own_at (P:=P) w base t ty e i z size bytes ht hi hz hsize hby hzs hsz v n xs hown ad m c news hr.1 hcells h1 h63 hbytes hbase
  exact⟨v',w',hrun,h2,h3,h5⟩
theorem uj{o:Oper}{a:Act}{K:Act->World->Prop}{Q:Exit->Act->World->Prop}(s x:Operand)(t:TypeId)
  (ho:o.op= .call { callee:= .builtin .append,args:= #[s,x],argTypes:= #[t,t] })
  (base:Nat) (e:TypeId) (i:TypeInfo) (z:Value) (size bytes:Nat) (ht:P.underlying t=some (.slice e)) (hi:P.info? e=some i) (hz:i.zero=some z)
  (hsize:i.size=size) (hby:i.bytes=bytes) (hzs:z.cells.size=size) (hsz:0<size)
  (v:Value) (n:Nat) (xs:List Value) (hs:a.eval s=v) (hown:w.ownsRow base e size v n xs)
  (B:Nat) (A:Option Addr) (m c:Nat) (news:List Value) (hx:a.eval x= .slice A m c) (hr:Reads w B size A m news) (h1:∀u∈news,u.oneCell'=true)
  (h63:n+m<=maxLen) (hbytes:(n+m)*bytes<=140737488355328) (hbase:base<=w.heap.size)
  (h:∀v' w',w'.ownsRow base e size v' (n+m) (xs++news)->w.grownBy w' v.ownBlock->(v'.ownBlock=v.ownBlock\/v'.ownBlock=some w.heap.size)->K (a.put o.dst v') w'):o.wp P a w K Q:=by
 obtain⟨v',w',hrun,h2,h3,h4⟩:=mg (P:=P) w base t o.type e i z size bytes ht hi hz hsize hby hzs hsz v n xs hown B A m c news hr h1 h63 hbytes hbase
 unfold Oper.wp execOp
 simp only[ho,resolve,invoke,builtin,Sem.run_bind,Sem.run_pure,Result.andThen_ok,List.map_toArray,List.map_cons,List.map_nil,hs,hx,hrun]
 exact h v' w' h2 h3 h4
theorem vX{ops:Array Oper}{rest:List Oper}{o:Oper}{a:Act}{Q:Exit->Act->World->Prop}(hgd:o.guard=none)(s x:Operand)(t:TypeId)
  (ho:o.op= .call { callee:= .builtin .append,args:= #[s,x],argTypes:= #[t,t] })
  (base:Nat) (e:TypeId) (i:TypeInfo) (z:Value) (size bytes:Nat) (ht:P.underlying t=some (.slice e)) (hi:P.info? e=some i) (hz:i.zero=some z)
  (hsize:i.size=size) (hby:i.bytes=bytes) (hzs:z.cells.size=size) (hsz:0<size)
  (v:Value) (n:Nat) (xs:List Value) (hs:a.eval s=v) (hown:w.ownsRow base e size v n xs)
  (B:Nat) (A:Option Addr) (m c:Nat) (news:List Value) (hx:a.eval x= .slice A m c) (hr:Reads w B size A m news) (h1:∀u∈news,u.oneCell'=true)
  (h63:n+m<=maxLen) (hbytes:(n+m)*bytes<=140737488355328) (hbase:base<=w.heap.size)
  (h:∀v' w',w'.ownsRow base e size v' (n+m) (xs++news)->w.grownBy w' v.ownBlock->(v'.ownBlock=v.ownBlock\/v'.ownBlock=some w.heap.size)->wpList P ops Q rest (a.put o.dst v') w'):wpList P ops Q (o::rest) a w:=
 wpList_plain hgd fun _ hK=>uj w s x t ho base e i z size bytes ht hi hz hsize hby hzs hsz v n xs hs hown B A m c news hx hr h1 h63 hbytes hbase fun v' w' h2 h3 h4=>hK _ _ (h v' w' h2 h3 h4)
theorem zK{ops:Array Oper}{o:Oper}{a:Act}{K:Act->World->Prop}{Q:Exit->Act->World->Prop}{E:Prop}(hgd:o.guard=none)(s x:Operand)(t:TypeId)
  (ho:o.op= .call { callee:= .builtin .append,args:= #[s,x],argTypes:= #[t,t] })
  (base:Nat) (e:TypeId) (i:TypeInfo) (z:Value) (size bytes:Nat) (ht:P.underlying t=some (.slice e)) (hi:P.info? e=some i) (hz:i.zero=some z)
  (hsize:i.size=size) (hby:i.bytes=bytes) (hzs:z.cells.size=size) (hsz:0<size)
  (v:Value) (n:Nat) (xs:List Value) (hs:a.eval s=v) (hown:w.ownsRow base e size v n xs)
  (B:Nat) (A:Option Addr) (m c:Nat) (news:List Value) (hx:a.eval x= .slice A m c) (hr:Reads w B size A m news) (h1:∀u∈news,u.oneCell'=true)
  (h63:n+m<=maxLen) (hbytes:(n+m)*bytes<=140737488355328) (hbase:base<=w.heap.size)
  (h:∀v' w',w'.ownsRow base e size v' (n+m) (xs++news)->w.grownBy w' v.ownBlock->(v'.ownBlock=v.ownBlock\/v'.ownBlock=some w.heap.size)->K (a.put o.dst v') w'):
  if Region.wanted o (yielded ops a.tmps)=true then Oper.wp P o a w K Q else E:=by
 have hw:Region.wanted o (yielded ops a.tmps)=true:=by simp[Region.wanted,hgd]
 rw[if_pos hw]
 exact uj w s x t ho base e i z size bytes ht hi hz hsize hby hzs hsz v n xs hs hown B A m c news hx hr h1 h63 hbytes hbase h
end
theorem below_drewN{B:Nat}{a w:World}(h:Below B a w)(n:Nat):Below B a (w.drewN n):=⟨h.os,h.tape,h.output,h.size,h.block⟩
theorem EH{a w:World}{row:Option Nat}(h:a.grownBy w row):a.grownBy w.drew row:=⟨h.os,h.tape,h.output,h.size,h.block⟩
theorem uI{a w:World}{row:Option Nat}(h:a.grownBy w row)(o:Obj):a.grownBy (w.alloc o) row:=
 ⟨h.os,h.tape,h.output,Nat.le_trans h.size (by simp),fun i hi hne=>(Below.heap_alloc w o i (Nat.lt_of_lt_of_le hi h.size)).trans (h.block i hi hne)⟩
theorem aQ{a w:World}{g:Nat}(h:a.grownBy w (some g)){p:Addr}(hp:p.block=g\/a.heap.size<=p.block)(u:Value):a.grownBy (w.setCell p u) (some g):=
 ⟨h.os,h.tape,h.output,by simpa[World.setCell]using h.size,fun i hi hne=>(Below.heap_setCell w p u i (by
  rintro rfl
  rcases hp with hp | hp
  ·exact hne (by rw[hp])
  ·omega)).trans (h.block i hi hne)⟩
theorem fV{a w:World}(h:Below a.heap.size a w)(row:Option Nat):a.grownBy w row:=⟨h.os,h.tape,h.output,h.size,fun i hi _=>h.block i hi⟩
theorem D5{a w:World}(h:a.grownBy w none)(row:Option Nat):a.grownBy w row:=⟨h.os,h.tape,h.output,h.size,fun i hi _=>h.block i hi (by simp)⟩
theorem below_of_grown{a w:World}{g B:Nat}(h:a.grownBy w (some g))(hB:B<=a.heap.size)(hg:B<=g):Below B a w:=(Below.refl B a).grown h hB (fun k e=>by cases e;exact hg)
theorem nV{a w:World}{B:Nat}(h:a.grownBy w none)(hB:B<=a.heap.size):Below B a w:=(Below.refl B a).grown h hB (fun k e=>by cases e)
def EI(P:Program)(e:TypeId)(z:Value)(size bytes:Nat):Prop:=∃i,P.info? e=some i/\i.zero=some z/\i.size=size/\i.bytes=bytes
theorem EI.mk{P:Program}{e:TypeId}{z:Value}{size bytes:Nat}(h:(P.info? e).map (fun i=>(i.zero,i.size,i.bytes))=some (some z,size,bytes)):EI P e z size bytes:=by
 obtain⟨i,h1,h2,h3,h4⟩:=info_parts h
 exact⟨i,h1,h2,h3,h4⟩
section
variable {P:Program}{w:World}
theorem aU{ops:Array Oper}{rest:List Oper}{o:Oper}{a:Act}{Q:Exit->Act->World->Prop}(hgd:o.guard=none)(s x:Operand)(t:TypeId)
  (ho:o.op= .call { callee:= .builtin .append,args:= #[s,x],argTypes:= #[t,t] })
  {base:Nat} {e:TypeId} {z:Value} {size bytes:Nat} (hE:EI P e z size bytes) (ht:P.underlying t=some (.slice e)) (hzs:z.cells.size=size) (hsz:0<size)
  {v:Value} {n:Nat} {xs:List Value} (hs:a.eval s=v) (hown:w.ownsRow base e size v n xs)
  {cs:Array Value} {te:TypeId} {gx:Nat} (hx:a.eval x= .slice (some ⟨gx,0,none⟩) 1 1) (hgx:gx=w.heap.size) (hl:cs.size=size) (h1:∀u∈cs.toList,u.oneCell'=true)
  (UQ:n+1<=maxLen) (hbytes:(n+1)*bytes<=140737488355328) (hbase:base<=w.heap.size)
  (h:∀v' w',w'.ownsRow base e size v' (n+1) (xs++cs.toList)->w.grownBy w' v.ownBlock->Below base w w'->(v'.ownBlock=v.ownBlock\/∃g,v'.ownBlock=some g/\w.heap.size<=g)->v'≠ .slice none 0 0->
   wpList P ops Q rest (a.put o.dst v') w'):wpList P ops Q (o::rest) a (w.alloc (.cells cs te)):=by
 obtain⟨i,hi,hz0,hz1,hz2⟩:=hE
 subst hgx
 have hcell:∀j u,cs.toList[j]? =some u->(w.alloc (.cells cs te)).cell? ((⟨w.heap.size,0,none⟩:Addr).add j)=some u:=by
  intro j u hu
  have e1:((⟨w.heap.size,0,none⟩:Addr).add j)=⟨w.heap.size,j,none⟩:=by rw[Addr.add_lit];simp
  rw[e1,(Blk.new w te cs).cell j]
  simpa using hu
 obtain⟨v',w',hrun,h2,h3,h4,h5⟩:=run_append_own_at (P:=P) (w.alloc (.cells cs te)) base t o.type e i z size bytes ht hi hz0 hz1 hz2 hzs hsz v n xs (hown.alloc _) ⟨w.heap.size,0,none⟩ 1 1 cs.toList (by simp[hl]) hcell h1 UQ hbytes (by simp;omega)
 have hg:w.grownBy w' v.ownBlock:=(World.grownBy_alloc w _ _).trans h3
 refine wpList_plain hgd fun K hK=> ?_
 unfold Oper.wp execOp
 simp only[ho,resolve,invoke,builtin,Sem.run_bind,Sem.run_pure,Result.andThen_ok,List.map_toArray,List.map_cons,List.map_nil,hs,hx,hrun]
 refine hK _ _ (h v' w' h2 hg ((Below.refl _ _).grown hg hbase fun k hk=> ?_) ?_ fun hc=> ?_)
 ·exact(hown.lt k hk).1
 ·rcases h5 with h5 | h5
  ·exact .inl h5
  ·exact .inr ⟨_,h5,by simp⟩
 ·have:=(h4.1 hc).2;omega
theorem QI{ops:Array Oper}{o:Oper}{a:Act}{K:Act->World->Prop}{Q:Exit->Act->World->Prop}{E:Prop}(hgd:o.guard=none)(s x:Operand)(t:TypeId)
  (ho:o.op= .call { callee:= .builtin .append,args:= #[s,x],argTypes:= #[t,t] })
  {base:Nat} {e:TypeId} {z:Value} {size bytes:Nat} (hE:EI P e z size bytes) (ht:P.underlying t=some (.slice e)) (hzs:z.cells.size=size) (hsz:0<size)
  {v:Value} {n:Nat} {xs:List Value} (hs:a.eval s=v) (hown:w.ownsRow base e size v n xs)
  {cs:Array Value} {te:TypeId} {gx:Nat} (hx:a.eval x= .slice (some ⟨gx,0,none⟩) 1 1) (hgx:gx=w.heap.size) (hl:cs.size=size) (h1:∀u∈cs.toList,u.oneCell'=true)
  (UQ:n+1<=maxLen) (hbytes:(n+1)*bytes<=140737488355328) (hbase:base<=w.heap.size)
  (h:∀v' w',w'.ownsRow base e size v' (n+1) (xs++cs.toList)->w.grownBy w' v.ownBlock->Below base w w'->K (a.put o.dst v') w'):
  if Region.wanted o (yielded ops a.tmps)=true then Oper.wp P o a (w.alloc (.cells cs te)) K Q else E:=by
 have hw:Region.wanted o (yielded ops a.tmps)=true:=by simp[Region.wanted,hgd]
 rw[if_pos hw]
 obtain⟨i,hi,hz0,hz1,hz2⟩:=hE
 subst hgx
 have hcell:∀j u,cs.toList[j]? =some u->(w.alloc (.cells cs te)).cell? ((⟨w.heap.size,0,none⟩:Addr).add j)=some u:=by
  intro j u hu
  have e1:((⟨w.heap.size,0,none⟩:Addr).add j)=⟨w.heap.size,j,none⟩:=by rw[Addr.add_lit];simp
  rw[e1,(Blk.new w te cs).cell j]
  simpa using hu
 obtain⟨v',w',hrun,h2,h3,h4,h5⟩:=run_append_own_at (P:=P) (w.alloc (.cells cs te)) base t o.type e i z size bytes ht hi hz0 hz1 hz2 hzs hsz v n xs (hown.alloc _) ⟨w.heap.size,0,none⟩ 1 1 cs.toList (by simp[hl]) hcell h1 UQ hbytes (by simp;omega)
 have hg:w.grownBy w' v.ownBlock:=(World.grownBy_alloc w _ _).trans h3
 unfold Oper.wp execOp
 simp only[ho,resolve,invoke,builtin,Sem.run_bind,Sem.run_pure,Result.andThen_ok,List.map_toArray,List.map_cons,List.map_nil,hs,hx,hrun]
 exact h v' w' h2 hg ((Below.refl _ _).grown hg hbase fun k hk=>(hown.lt k hk).1)
theorem gQ{ops:Array Oper}{rest:List Oper}{o:Oper}{a:Act}{Q:Exit->Act->World->Prop}(hgd:o.guard=none)(s x:Operand)(t:TypeId)
  (ho:o.op= .call { callee:= .builtin .append,args:= #[s,x],argTypes:= #[t,t] })
  {base:Nat} {e:TypeId} {z:Value} {size bytes:Nat} (hE:EI P e z size bytes) (ht:P.underlying t=some (.slice e)) (hzs:z.cells.size=size) (hsz:0<size)
  {v:Value} {n:Nat} {xs:List Value} (hs:a.eval s=v) (hown:w.ownsRow base e size v n xs)
  {B:Nat} {A:Option Addr} {m c:Nat} {news:List Value} (hx:a.eval x= .slice A m c) (hr:Reads w B size A m news) (h1:∀u∈news,u.oneCell'=true)
  (h63:n+m<=maxLen) (hbytes:(n+m)*bytes<=140737488355328) (hbase:base<=w.heap.size)
  (h:∀v' w',w'.ownsRow base e size v' (n+m) (xs++news)->w.grownBy w' v.ownBlock->Below base w w'->wpList P ops Q rest (a.put o.dst v') w'):wpList P ops Q (o::rest) a w:=by
 obtain⟨i,hi,hz0,hz1,hz2⟩:=hE
 refine vX w hgd s x t ho base e i z size bytes ht hi hz0 hz1 hz2 hzs hsz v n xs hs hown B A m c news hx hr h1 h63 hbytes hbase fun v' w' h2 h3 _=>h v' w' h2 h3 ((Below.refl _ _).grown h3 hbase fun k hk=>(hown.lt k hk).1)
def Gv(b:UInt8):Value:= .int .u8 (b.toNat:Int)
theorem MG(k:Nat):Gv (UInt8.ofNat k)= .int .u8 ((k % 256:Nat):Int):=by unfold Gv;simp
theorem uJ{src dst e:TypeId}{base:Nat}{v:Value}{l:List UInt8}{n:Nat}(hs:P.underlying src=some (.slice e))(he:P.underlying e=some (.int .u8))(hd:P.underlying dst=some .string)
  (h:w.ownsRow base e 1 v n (l.map Gv)):(convert src dst v).run P w= .ok (.string ⟨l.toArray⟩) w:=by
 have hn:l.length=n:=by have:=h.1;simpa using this
 rcases h.2 with⟨rfl,h0⟩ | ⟨g,cap,cur,rfl,_⟩
 ·subst h0
  have:l= []:=List.eq_nil_of_length_eq_zero hn
  subst this
  rw[run_convert_bytes_string w src dst e none 0 0 hs he hd];rfl
 ·subst hn
  refine run_convert_bytes_back w src dst e _ cap l hs he hd fun j hj=> ?_
  have:=h.cells (g:=g) rfl j (Gv l[j]) (by simp[hj])
  exact this
theorem MH{src dst e:TypeId}(W:World)(x:Int)(te:TypeId)(c:Nat)(hs:P.underlying src=some (.slice e))(he:P.underlying e=some (.int .u8))(hd:P.underlying dst=some .string):
  (convert src dst (.slice (some ⟨W.heap.size,0,none⟩) 1 c)).run P (W.alloc (.cells #[.int .u8 x] te))= .ok (.string ⟨[UInt8.ofNat x.toNat].toArray⟩) (W.alloc (.cells #[.int .u8 x] te)):=by
 rw[run_convert_bytes_string _ src dst e _ 1 c hs he hd]
 have hl:=run_loadCells_list (P:=P) (W.alloc (.cells #[.int .u8 x] te)) ⟨W.heap.size,0,none⟩ ([x].map (Value.int .u8)) (fun j v hj=>by
  have:j=0:=by
   have:=(List.getElem?_eq_some_iff.1 hj).1
   simp at this;omega
  subst this
  simp at hj
  subst hj
  rw[Addr.add_lit]
  exact(Blk.new W te #[.int .u8 x]).cell 0)
 rw[run_bytesToString _ _ 1 c [x] hl]
 rfl
theorem vY{src dst e:TypeId}(W:World)(l:List UInt8)(hs:P.underlying src=some .string)(hd:P.underlying dst=some (.slice e))(he:P.underlying e=some (.int .u8)):
  ∃cap W',(convert src dst (.string ⟨l.toArray⟩)).run P W= .ok (.slice (some ⟨W.heap.size,0,none⟩) l.length cap) W'/\W.grownBy W' none/\(∀ (j:Nat) (hj:j<l.length),W'.cell? ⟨W.heap.size,j,none⟩=some (.int .u8 (l[j].toNat:Int))):=by
 refine⟨_,_,run_bytes_of_string W src dst e ⟨l.toArray⟩ hs hd he, ?_,fun j hj=> ?_⟩
 ·exact uI (EH (World.grownBy.refl W none)) _
 ·rw[show W.heap.size=W.drew.heap.size from rfl,World.cell?_alloc_mark,bytesRow_at _ _ _ (by simpa using hj)]
  simp
end
end Go.Proofs.YteppebbmnojapaaGreatDoor
namespace Rp
abbrev Run:=Int × Int
def Most:Int:=4294967295
def clip(r:Run):Run:=(max r.1 0,min r.2 Most)
def Mem(l:List Run)(n:Int):Prop:=∃r∈l,r.1<=n/\n<=r.2
def Canon:Int->List Run->Prop
 |_, []=>True
 |lo,r::l=>lo<=r.1/\r.1<=r.2/\r.2<=Most/\Canon (r.2+2) l
theorem dO(n:Int):¬Mem [] n:=by rintro⟨r,h,_⟩;cases h
theorem mem_cons{r:Run}{l:List Run}{n:Int} :Mem (r::l) n ↔ (r.1<=n/\n<=r.2)\/Mem l n:=by
 unfold Mem
 constructor
 ·rintro⟨s,hs,h⟩
  rcases List.mem_cons.1 hs with rfl | hs
  ·exact .inl h
  ·exact .inr ⟨s,hs,h⟩
 ·rintro(h | ⟨s,hs,h⟩)
  ·exact⟨r,List.mem_cons_self,h⟩
  ·exact⟨s,List.mem_cons_of_mem _ hs,h⟩
theorem mem_append{l m:List Run}{n:Int} :Mem (l++m) n ↔ Mem l n\/Mem m n:=by
 induction l with
 |nil=>simp[dO]
 |cons r l ih=>rw[List.cons_append,mem_cons,mem_cons,ih,or_assoc]
theorem Canon.ge{lo:Int}{l:List Run}(h:Canon lo l){n:Int}(hm:Mem l n):lo<=n:=by
 induction l generalizing lo with
 |nil=>exact absurd hm (dO n)
 |cons r l ih=>
  rcases mem_cons.1 hm with h1 | h1
  ·have:=h.1;omega
  ·have:=ih h.2.2.2 h1;have:=h.1;have:=h.2.1;omega
theorem Canon.le{lo:Int}{l:List Run}(h:Canon lo l){n:Int}(hm:Mem l n):n<=Most:=by
 induction l generalizing lo with
 |nil=>exact absurd hm (dO n)
 |cons r l ih=>
  rcases mem_cons.1 hm with h1 | h1
  ·have:=h.2.2.1;omega
  ·exact ih h.2.2.2 h1
theorem iL:∀ (a b:List Run) (lo lo':Int),Canon lo a->Canon lo' b->(∀n,Mem a n ↔ Mem b n)->a=b
 | [], [],_,_,_,_,_=>rfl
 | [],s::b,_,_,_,hb,h=>absurd ((h s.1).2 (mem_cons.2 (.inl ⟨Int.le_refl _,hb.2.1⟩))) (dO _)
 |r::a, [],_,_,ha,_,h=>absurd ((h r.1).1 (mem_cons.2 (.inl ⟨Int.le_refl _,ha.2.1⟩))) (dO _)
 |(f,t)::a,(f',t')::b,lo,lo',ha,hb,h=>by
  obtain⟨_,h1,_,ha'⟩:=ha
  obtain⟨_,h2,_,hb'⟩:=hb
  simp only at h1 h2 ha' hb'
  have e1:f=f':=by
   have m1:=(h f).1 (mem_cons.2 (.inl ⟨Int.le_refl _,h1⟩))
   have m2:=(h f').2 (mem_cons.2 (.inl ⟨Int.le_refl _,h2⟩))
   rcases mem_cons.1 m1 with m1 | m1<;>rcases mem_cons.1 m2 with m2 | m2
   ·simp only at m1 m2;omega
   ·have:=ha'.ge m2;simp only at m1;omega
   ·have:=hb'.ge m1;simp only at m2;omega
   ·have:=ha'.ge m2;have:=hb'.ge m1;omega
  subst e1
  have e2:t=t':=by
   rcases Int.lt_trichotomy t t' with hlt | heq | hlt
   ·have m:=(h (t+1)).2 (mem_cons.2 (.inl ⟨by simp only;omega,by simp only;omega⟩))
    rcases mem_cons.1 m with m | m
    ·simp only at m;omega
    ·have:=ha'.ge m;omega
   ·exact heq
   ·have m:=(h (t'+1)).1 (mem_cons.2 (.inl ⟨by simp only;omega,by simp only;omega⟩))
    rcases mem_cons.1 m with m | m
    ·simp only at m;omega
    ·have:=hb'.ge m;omega
  subst e2
  rw[iL a b _ _ ha' hb' fun n=> ?_]
  constructor
  ·intro m
   have hn:=ha'.ge m
   rcases mem_cons.1 ((h n).1 (mem_cons.2 (.inr m)))with m' | m'
   ·simp only at m';omega
   ·exact m'
  ·intro m
   have hn:=hb'.ge m
   rcases mem_cons.1 ((h n).2 (mem_cons.2 (.inr m)))with m' | m'
   ·simp only at m';omega
   ·exact m'
def kept(l:List Run):List Run:=(l.map clip).filter fun r=>decide (r.1<=r.2)
def push(out:List Run)(r:Run):List Run:=
 match out.getLast? with
 |none=> [r]
 |some y=>if r.1<=y.2+1 then out.dropLast++ [(y.1,max y.2 r.2)]else out++ [r]
def merged(l:List Run):List Run:=l.foldl push []
theorem fM{a b:List Run}{lo:Int} :Canon lo (a++b) ↔ Canon lo a/\Canon (match a.getLast? with | none=>lo | some y=>y.2+2) b:=by
 induction a generalizing lo with
 |nil=>simp[Canon]
 |cons r a ih=>
  rw[List.cons_append]
  show(lo<=r.1/\r.1<=r.2/\r.2<=Most/\Canon (r.2+2) (a++b)) ↔ (lo<=r.1/\r.1<=r.2/\r.2<=Most/\Canon (r.2+2) a)/\_
  rw[ih]
  have e:((r::a).getLast?)=some (a.getLast?.getD r):=by rw[List.getLast?_cons]
  rw[e]
  rcases h:a.getLast? with _ | y
  ·simp[and_assoc]
  ·simp[and_assoc]
theorem xH{l:List Run}{y:Run}(h:l.getLast? =some y):l=l.dropLast++ [y]:=by
 have hne:l≠ []:=by rintro rfl;simp at h
 have:=List.dropLast_concat_getLast hne
 rw[List.getLast?_eq_some_getLast hne]at h
 injection h with h
 rw[h]at this
 exact this.symm
def MI(out:List Run)(n:Int):Prop:=∀y,out.getLast? =some y->y.1<=n
theorem YG{out:List Run}{r:Run}(h:Canon 0 out)(hl:MI out r.1)(h0:0<=r.1)(h1:r.1<=r.2)(h2:r.2<=Most):
  Canon 0 (push out r)/\MI (push out r) r.1/\∀n,Mem (push out r) n ↔ Mem out n\/(r.1<=n/\n<=r.2):=by
 unfold push
 rcases hg:out.getLast? with _ | y
 ·have hn:out= []:=by simpa using hg
  subst hn
  refine⟨⟨h0,h1,h2,trivial⟩, ?_,fun n=> ?_⟩
  ·intro y hy;simp at hy;subst hy;exact Int.le_refl _
  ·simp[mem_cons,dO]
 ·have hs:=xH hg
  have hly:=hl y hg
  have hc:Canon 0 (out.dropLast++ [y]):=by rw[<-hs];exact h
  obtain⟨hd,hy1,hy2,hy3,_⟩:=fM.1 hc
  simp only
  split
  ·rename_i hle
   refine⟨fM.2 ⟨hd,hy1, ?_, ?_,trivial⟩, ?_,fun n=> ?_⟩
   ·simp only;omega
   ·simp only;omega
   ·intro z hz;simp at hz;subst hz;exact hly
   ·have hm:Mem out n ↔ Mem (out.dropLast++ [y]) n:=by rw[<-hs]
    rw[hm,mem_append,mem_append,mem_cons,mem_cons]
    have:=dO n
    simp only[this,or_false]
    constructor
    ·rintro(h | h)
     ·exact .inl (.inl h)
     ·by_cases hh:n<=y.2
      ·exact .inl (.inr ⟨h.1,hh⟩)
      ·exact .inr ⟨by omega,by omega⟩
    ·rintro((h | h) | h)
     ·exact .inl h
     ·exact .inr ⟨h.1,by omega⟩
     ·exact .inr ⟨by omega,by omega⟩
  ·rename_i hle
   refine⟨fM.2 ⟨h, ?_⟩, ?_,fun n=> ?_⟩
   ·rw[hg];exact⟨by simp only;omega,h1,h2,trivial⟩
   ·intro z hz;simp at hz;subst hz;exact Int.le_refl _
   ·rw[mem_append,mem_cons];have:=dO n;simp only[this,or_false]
theorem yI(l:List Run):∀ (out:List Run),Canon 0 out->(∀r∈l,MI out r.1)->l.Pairwise (fun a b=>a.1<=b.1)->
  (∀r∈l,0<=r.1/\r.1<=r.2/\r.2<=Most)->Canon 0 (l.foldl push out)/\∀n,Mem (l.foldl push out) n ↔ Mem out n\/Mem l n:=by
 induction l with
 |nil=>intro out h _ _ _;exact⟨h,fun n=>by simp[dO]⟩
 |cons r l ih=>
  intro out h hl hp hr
  obtain⟨hp1,hp2⟩:=List.pairwise_cons.1 hp
  obtain⟨h0,h1,h2⟩:=hr r List.mem_cons_self
  obtain⟨c,ll,m⟩:=YG h (hl r List.mem_cons_self) h0 h1 h2
  obtain⟨c2,m2⟩:=ih (push out r) c (fun s hs y hy=>Int.le_trans (ll y hy) (hp1 s hs)) hp2 (fun s hs=>hr s (List.mem_cons_of_mem _ hs))
  refine⟨c2,fun n=> ?_⟩
  rw[List.foldl_cons,m2,m,mem_cons,or_assoc]
theorem Gw{l:List Run} :∀r∈kept l,0<=r.1/\r.1<=r.2/\r.2<=Most:=by
 intro r hr
 unfold kept at hr
 obtain⟨h1,h2⟩:=List.mem_filter.1 hr
 obtain⟨s,_,rfl⟩:=List.mem_map.1 h1
 have h2:(clip s).1<=(clip s).2:=of_decide_eq_true h2
 refine⟨?_,h2, ?_⟩<;>simp only[clip]<;>omega
theorem UR{l:List Run}{n:Int} :Mem (kept l) n ↔ Mem l n/\0<=n/\n<=Most:=by
 constructor
 ·rintro⟨r,hr,h⟩
  have:=Gw r hr
  unfold kept at hr
  obtain⟨h1,h2⟩:=List.mem_filter.1 hr
  obtain⟨s,hs,rfl⟩:=List.mem_map.1 h1
  simp only[clip]at h this
  exact⟨⟨s,hs,by omega,by omega⟩,by omega,by omega⟩
 ·rintro⟨⟨r,hr,h⟩,h0,hm⟩
  refine⟨clip r,List.mem_filter.2 ⟨List.mem_map.2 ⟨r,hr,rfl⟩, ?_⟩, ?_⟩
  ·simp only[clip];exact decide_eq_true (by omega)
  ·simp only[clip];omega
theorem UU{a b:List Run}(h:a.Perm b)(n:Int):Mem a n ↔ Mem b n:=by
 unfold Mem
 constructor
 ·rintro⟨r,hr,x⟩;exact⟨r,h.mem_iff.1 hr,x⟩
 ·rintro⟨r,hr,x⟩;exact⟨r,h.mem_iff.2 hr,x⟩
theorem D6{l s:List Run}(hp:s.Perm (kept l))(hs:s.Pairwise (fun a b=>a.1<=b.1)):
  Canon 0 (merged s)/\∀n,Mem (merged s) n ↔ Mem l n/\0<=n/\n<=Most:=by
 obtain⟨c,m⟩:=yI s [] trivial (fun r _ y hy=>by simp at hy) hs (fun r hr=>Gw r (hp.mem_iff.1 hr))
 refine⟨c,fun n=> ?_⟩
 have:=m n
 unfold merged
 rw[this,UU hp,UR]
 simp[dO]
def eX(st:List Run × Run × Bool)(y:Run):List Run × Run × Bool:=
 if y.2+1<st.2.1.1 then(st.1++ [y],st.2.1,st.2.2)
 else if st.2.1.2+1<y.1 then(if st.2.2 then(st.1++ [y],st.2.1,true)else(st.1++ [st.2.1]++ [y],st.2.1,true))
 else(st.1,(min st.2.1.1 y.1,max st.2.1.2 y.2),st.2.2)
def uK(st:List Run × Run × Bool):List Run:=if st.2.2 then st.1 else st.1++ [st.2.1]
def put(l:List Run)(x:Run):List Run:=
 if(clip x).1<=(clip x).2 then uK (l.foldl eX ([],clip x,false))else l
def norm(l:List Run):List Run:=l.foldl put []
theorem UW(l:List Run):∀ (out:List Run) (r:Run) (lo:Int),Canon lo l->r.2+1<lo->
  l.foldl eX (out,r,true)=(out++l,r,true)\/l.foldl eX (out,r,true)=(out++l,r,true):=by
 induction l with
 |nil=>intro out r lo _ _;simp
 |cons y l ih=>
  intro out r lo h hr
  have e:eX (out,r,true) y=(out++ [y],r,true):=by
   unfold eX
   have:=h.1
   by_cases h1:y.2+1<r.1
   ·simp[h1]
   ·simp only[h1,if_false];rw[if_pos (by omega)];simp
  rw[List.foldl_cons,e]
  have:=ih (out++ [y]) r (y.2+2) h.2.2.2 (by have:=h.1;have:=h.2.1;omega)
  simpa using this
theorem UY(l:List Run):∀ (out:List Run) (r:Run) (lo:Int),Canon lo l->Canon 0 out->(∀y,out.getLast? =some y->y.2+2<=lo/\y.2+1<r.1)->0<=lo->
  0<=r.1->r.1<=r.2->r.2<=Most->
  Canon 0 (uK (l.foldl eX (out,r,false)))/\∀n,Mem (uK (l.foldl eX (out,r,false))) n ↔ Mem out n\/Mem l n\/(r.1<=n/\n<=r.2):=by
 induction l with
 |nil=>
  intro out r lo _ ho hl _ h0 h1 h2
  simp only[List.foldl_nil,uK,Bool.false_eq_true,if_false]
  refine⟨fM.2 ⟨ho, ?_⟩,fun n=> ?_⟩
  ·rcases hg:out.getLast? with _ | y
   ·exact⟨h0,h1,h2,trivial⟩
   ·exact⟨by have:=(hl y hg).2;simp only;omega,h1,h2,trivial⟩
  ·rw[mem_append,mem_cons];simp[dO]
 |cons y l ih=>
  intro out r lo h ho hl hlo h0 h1 h2
  obtain⟨g1,g2,g3,g4⟩:=h
  rw[List.foldl_cons]
  by_cases c1:y.2+1<r.1
  ·have e:eX (out,r,false) y=(out++ [y],r,false):=by unfold eX;simp[c1]
   rw[e]
   have hc:Canon 0 (out++ [y]):=fM.2 ⟨ho,by
    rcases hg:out.getLast? with _ | z
    ·exact⟨by simp only;omega,g2,g3,trivial⟩
    ·exact⟨by have:=(hl z hg).1;simp only;omega,g2,g3,trivial⟩⟩
   obtain⟨i1,i2⟩:=ih (out++ [y]) r (y.2+2) g4 hc (fun z hz=>by simp at hz;subst hz;exact⟨Int.le_refl _,c1⟩) (by omega) h0 h1 h2
   refine⟨i1,fun n=> ?_⟩
   rw[i2,mem_append,mem_cons,mem_cons]
   simp only[dO,or_false,or_assoc]
  ·by_cases c2:r.2+1<y.1
   ·have e:eX (out,r,false) y=(out++ [r]++ [y],r,true):=by unfold eX;simp[c1,c2]
    rw[e]
    rcases UW l (out++ [r]++ [y]) r (y.2+2) g4 (by omega)with hd | hd<;>
    ·rw[hd]
     simp only[uK,if_true]
     refine⟨?_,fun n=> ?_⟩
     ·rw[List.append_assoc,List.append_assoc]
      refine fM.2 ⟨ho, ?_⟩
      refine⟨?_,h1,h2, ?_,g2,g3, ?_⟩
      ·rcases hg:out.getLast? with _ | z
       ·exact h0
       ·have:=(hl z hg).2;show z.2+2<=r.1;omega
      ·show r.2+2<=y.1;omega
      ·simpa using g4
     ·simp only[mem_append,mem_cons,dO,or_false]
      constructor
      ·rintro(((h | h) | h) | h)
       ·exact .inl h
       ·exact .inr (.inr h)
       ·exact .inr (.inl (.inl h))
       ·exact .inr (.inl (.inr h))
      ·rintro(h | (h | h) | h)
       ·exact .inl (.inl (.inl h))
       ·exact .inl (.inr h)
       ·exact .inr h
       ·exact .inl (.inl (.inr h))
   ·have e:eX (out,r,false) y=(out,(min r.1 y.1,max r.2 y.2),false):=by unfold eX;simp[c1,c2]
    rw[e]
    obtain⟨i1,i2⟩:=ih out (min r.1 y.1,max r.2 y.2) (y.2+2) g4 ho (fun z hz=>by have:=hl z hz;simp only;omega) (by omega) (by simp only;omega) (by simp only;omega) (by simp only;omega)
    refine⟨i1,fun n=> ?_⟩
    rw[i2,mem_cons]
    simp only
    constructor
    ·rintro(h | h | h)
     ·exact .inl h
     ·exact .inr (.inl (.inr h))
     ·by_cases hh:r.1<=n/\n<=r.2
      ·exact .inr (.inr hh)
      ·exact .inr (.inl (.inl (by omega)))
    ·rintro(h | (h | h) | h)
     ·exact .inl h
     ·exact .inr (.inr (by omega))
     ·exact .inr (.inl h)
     ·exact .inr (.inr (by omega))
theorem aa7{l:List Run}(x:Run)(h:Canon 0 l):Canon 0 (put l x)/\∀n,Mem (put l x) n ↔ Mem l n\/(x.1<=n/\n<=x.2/\0<=n/\n<=Most):=by
 unfold put
 by_cases hc:(clip x).1<=(clip x).2
 ·rw[if_pos hc]
  obtain⟨i1,i2⟩:=UY l [] (clip x) 0 h trivial (fun y hy=>by simp at hy) (Int.le_refl _) (by simp only[clip];omega) hc (by simp only[clip];omega)
  refine⟨i1,fun n=> ?_⟩
  rw[i2]
  simp only[dO,false_or,clip]
  constructor
  ·rintro(h | h)
   ·exact .inl h
   ·exact .inr (by omega)
  ·rintro(h | h)
   ·exact .inl h
   ·exact .inr (by omega)
 ·rw[if_neg hc]
  refine⟨h,fun n=>⟨.inl, ?_⟩⟩
  rintro(h | h)
  ·exact h
  ·simp only[clip]at hc;omega
theorem xI(l:List Run):∀ (out:List Run),Canon 0 out->Canon 0 (l.foldl put out)/\∀n,Mem (l.foldl put out) n ↔ Mem out n\/(Mem l n/\0<=n/\n<=Most):=by
 induction l with
 |nil=>intro out h;exact⟨h,fun n=>by simp[dO]⟩
 |cons x l ih=>
  intro out h
  obtain⟨c,m⟩:=aa7 x h
  obtain⟨c2,m2⟩:=ih (put out x) c
  refine⟨c2,fun n=> ?_⟩
  rw[List.foldl_cons,m2,m,mem_cons]
  constructor
  ·rintro((h | h) | h)
   ·exact .inl h
   ·exact .inr ⟨.inl ⟨h.1,h.2.1⟩,h.2.2⟩
   ·exact .inr ⟨.inr h.1,h.2⟩
  ·rintro(h | ⟨h | h,h'⟩)
   ·exact .inl (.inl h)
   ·exact .inl (.inr ⟨h.1,h.2,h'⟩)
   ·exact .inr ⟨h,h'⟩
theorem dw(l:List Run):Canon 0 (norm l)/\∀n,Mem (norm l) n ↔ Mem l n/\0<=n/\n<=Most:=by
 obtain⟨c,m⟩:=xI l [] trivial
 exact⟨c,fun n=>by unfold norm;rw[m];simp[dO]⟩
theorem norm_eq{l s:List Run}(hp:s.Perm (kept l))(hs:s.Pairwise (fun a b=>a.1<=b.1)):merged s=norm l:=by
 obtain⟨c1,m1⟩:=D6 hp hs
 obtain⟨c2,m2⟩:=dw l
 exact iL _ _ _ _ c1 c2 fun n=>by rw[m1,m2]
theorem yJ(st:List Run × Run × Bool)(y:Run):(eX st y).1.length<=st.1.length+1+(if st.2.2 then 0 else if(eX st y).2.2 then 1 else 0):=by
 unfold eX
 by_cases h1:y.2+1<st.2.1.1
 ·simp[h1]
 ·by_cases h2:st.2.1.2+1<y.1
  ·by_cases h3:st.2.2
   ·simp[h1,h2,h3]
   ·simp[h1,h2,h3]
  ·simp[h1,h2];omega
end Rp
namespace Go.Proofs.YteppebbmnojapaaGreatDoor
open Go.RowKit
abbrev Run:=Int × Int
def encR(r:Run):List Value:= [.int .i64 r.1, .int .i64 r.2]
def bT(l:List Run):List Value:=l.flatMap encR
theorem jZ(l:List Run):(bT l).length=l.length*2:=by
 induction l with
 |nil=>rfl
 |cons r l ih=>unfold bT at *;rw[List.flatMap_cons,List.length_append,ih,List.length_cons];simp[encR];omega
theorem ku(a b:List Run):bT (a++b)=bT a++bT b:=by unfold bT;rw[List.flatMap_append]
theorem uM(r:Run):bT [r]=encR r:=by simp[bT]
theorem su(l:List Run)(k:Nat)(hk:k<l.length):(bT l)[k*2]? =some (.int .i64 l[k].1)/\(bT l)[k*2+1]? =some (.int .i64 l[k].2):=by
 induction l generalizing k with
 |nil=>simp at hk
 |cons r l ih=>
  cases k with
  |zero=>simp[bT,encR]
  |succ k=>
   have:=ih k (by simpa using hk)
   have e1:(bT (r::l))= [.int .i64 r.1, .int .i64 r.2]++bT l:=rfl
   rw[e1,show(k+1)*2=k*2+2 by omega]
   simpa using this
theorem zL(l:List Run):∀u∈bT l,u.oneCell'=true:=by
 intro u hu
 unfold bT at hu
 obtain⟨r,_,hr⟩:=List.mem_flatMap.1 hu
 simp[encR]at hr
 rcases hr with rfl | rfl<;>rfl
theorem qC:EI Tryz.prog 64 (.agg #[.int .i64 0, .int .i64 0]) 2 16:=EI.mk (by kernel_rfl)
def RS(w:World)(B:Nat)(A:Option Addr)(l:List Run):Prop:=Reads w B 2 A l.length (bT l)
section
variable {w w':World}{B:Nat}{A:Option Addr}{l:List Run}
theorem RS.at_(h:RS w B A l){k:Nat}(hk:k<l.length):∃b off,A=some ⟨b,off,none⟩/\b<B/\w.cell? ⟨b,off+k*2,none⟩=some (.int .i64 l[k].1)/\w.cell? ⟨b,off+k*2+1,none⟩=some (.int .i64 l[k].2):=by
 obtain⟨ad,rfl,hb,hc⟩:=h.2 (by omega)
 obtain⟨b,off,spot⟩:=ad
 obtain⟨h0,h1⟩:=su l k hk
 have g0:=hc _ _ h0
 have g1:=hc _ _ h1
 have hs:spot=none:=by
  have g:=hc 0 _ (su l 0 (by omega)).1
  simpa[Addr.add]using World.cell?_spot g
 subst hs
 rw[Addr.add_lit]at g0 g1
 exact⟨b,off,rfl,hb,g0,by rw[Nat.add_assoc];exact g1⟩
theorem RS.below(h:RS w B A l)(hb:Below B w w'):RS w' B A l:=Reads.below h hb
theorem RS.more{B':Nat}(h:RS w B A l)(hB:B<=B'):RS w B' A l:=Reads.more h hB
theorem RS.nil_:RS w B A []:=⟨rfl,fun h=>absurd h (by simp)⟩
end
def Own(w:World)(base:Nat)(v:Value)(l:List Run):Prop:=w.ownsRow base 64 2 v l.length (bT l)
theorem Own.nil_(w:World)(base:Nat):Own w base (.slice none 0 0) []:=World.ownsRow_nil _ _ _ _
theorem Own.form{w:World}{base:Nat}{v:Value}{l:List Run}(h:Own w base v l):∃A c,v= .slice A l.length c:=by
 rcases h.2 with⟨rfl,h0⟩ | ⟨g,cap,cur,rfl,_⟩
 ·exact⟨none,0,by rw[h0]⟩
 ·exact⟨_,_,rfl⟩
theorem Own.rs{w:World}{base:Nat}{A:Option Addr}{n c:Nat}{l:List Run}(h:Own w base (.slice A n c) l):RS w w.heap.size A l:=by
 obtain⟨A',c',e⟩:=h.form
 injection e with e1 e2 e3
 subst e1 e2
 exact Reads.MF h
theorem uo{w:World}{base base' e size n:Nat}{v:Value}{xs:List Value}(h:w.ownsRow base e size v n xs)(hb:base'<=base):w.ownsRow base' e size v n xs:=by
 refine⟨h.1, ?_⟩
 rcases h.2 with h0 | ⟨g,cap,cur,h1,h2,h3⟩
 ·exact .inl h0
 ·exact .inr ⟨g,cap,cur,h1,Nat.le_trans hb h2,h3⟩
theorem ownsRow_below{w w':World}{base e size n:Nat}{v:Value}{xs:List Value}(h:w.ownsRow base e size v n xs)(hb:Below w.heap.size w w'):w'.ownsRow base e size v n xs:=by
 refine⟨h.1, ?_⟩
 rcases h.2 with h0 | ⟨g,cap,cur,h1,h2,h3,h4⟩
 ·exact .inl h0
 ·refine .inr ⟨g,cap,cur,h1,h2, ?_,h4⟩
  rw[hb.block g ?_];exact h3
  rcases Nat.lt_or_ge g w.heap.size with hlt | hge
  ·exact hlt
  ·rw[Array.getElem?_eq_none hge]at h3;cases h3
theorem Own.below{w w':World}{base:Nat}{v:Value}{l:List Run}(h:Own w base v l)(hb:Below w.heap.size w w'):Own w' base v l:=ownsRow_below h hb
theorem Own.lower{w:World}{base base':Nat}{v:Value}{l:List Run}(h:Own w base v l)(hb:base'<=base):Own w base' v l:=uo h hb
theorem UZ(A B:Option Addr)(l:List Run)(c d:Nat)(w:World)(ha:RS w w.heap.size A l)(hb:RS w w.heap.size B l)(hl:l.length<=1000000):
  Calls Tryz.prog 36 #[.slice A l.length c, .slice B l.length d] w fun e w'=>e= .returned (.bool true)/\Below w.heap.size w w':=by
 go_enter Tryz.func36,Tryz.ntmps36
 go_wp2
 go_loopw [5] (fun i wr=>∃k:Nat,k<=l.length/\i= .int .i64 k/\Below w.heap.size w wr) (fun i _=>l.length-(intOf i).toNat)
 case atStart=>exact⟨0,by omega,rfl,Below.refl _ _⟩
 case round=>
  obtain⟨k,hk,rfl,hbe⟩:=hrel
  by_cases hlt:k<l.length
  ·obtain⟨b1,o1,rfl,_,g0,g1⟩:=(ha.below hbe).at_ hlt
   obtain⟨b2,o2,rfl,_,g2,g3⟩:=(hb.below hbe).at_ hlt
   go_wp2
   go_quiet (fail)
   go_wp2
   go_roundw
   case rel=>exact⟨k+1,by omega,by go_num,below_drewN hbe _⟩
   case measure=>simp[intOf];omega
  ·go_wp2
   go_ret
   exact⟨rfl,hbe⟩
theorem mD{w:World}{base:Nat}{v:Value}{o:List Run}{y:Run}(h:w.ownsRow base 64 2 v (o.length+1) (bT o++ #[Value.int .i64 y.1,Value.int .i64 y.2].toList)):Own w base v (o++ [y]):=by
 unfold Own
 rw[ku,uM,List.length_append]
 exact h
def uN(l:List Run)(r:Run)(k:Nat):List Run × Run × Bool:=(l.take k).foldl Rp.eX ([],r,false)
theorem QJ(l:List Run)(r:Run)(k:Nat)(hk:k<l.length):uN l r (k+1)=Rp.eX (uN l r k) l[k]:=by
 unfold uN
 rw[List.take_succ_eq_append_getElem hk,List.foldl_append];rfl
def InR(r:Run):Prop:=0<=r.1/\r.1<=4294967295/\0<=r.2/\r.2<=4294967295
theorem U0(l:List Run)(r:Run)(hl:∀y∈l,InR y)(hr:InR r)(k:Nat):InR (uN l r k).2.1/\(uN l r k).1.length<=k+1/\((uN l r k).2.2=false->(uN l r k).1.length<=k):=by
 induction k with
 |zero=>exact⟨hr,by simp[uN],by simp[uN]⟩
 |succ k ih=>
  by_cases hk:k<l.length
  ·rw[QJ l r k hk]
   obtain⟨h1,h2,h3⟩:=ih
   have hy:=hl _ (List.getElem_mem hk)
   generalize uN l r k=st at*
   generalize l[k]=y at*
   obtain⟨o,q,d⟩:=st
   unfold Rp.eX InR at*
   simp only at h1 h2 h3 ⊢
   by_cases c1:y.2+1<q.1
   ·simp only[c1,if_true];refine⟨h1,by simp;omega,fun hd=> ?_⟩
    have:=h3 hd;simp;omega
   ·by_cases c2:q.2+1<y.1
    ·cases d
     ·simp only[c1,c2,if_true,if_false];refine⟨h1, ?_, ?_⟩
      ·have:=h3 rfl;simp;omega
      ·simp
     ·simp only[c1,c2,if_true,if_false];refine⟨h1,by simp;omega,by simp⟩
    ·simp only[c1,c2,if_false]
     refine⟨by omega,by omega,fun hd=> ?_⟩
     have:=h3 hd;omega
  ·have e:uN l r (k+1)=uN l r k:=by unfold uN;rw[List.take_of_length_le (by omega),List.take_of_length_le (by omega)]
   rw[e];exact⟨ih.1,by omega,fun h=>by have:=ih.2.2 h;omega⟩
def nAt(l:List Run)(k:Nat):List Run:=(l.take k).foldl Rp.put []
theorem U4(l:List Run)(k:Nat)(hk:k<l.length):nAt l (k+1)=Rp.put (nAt l k) l[k]:=by
 unfold nAt
 rw[List.take_succ_eq_append_getElem hk,List.foldl_append];rfl
theorem oC:∀ (l:List Run) (lo:Int),0<=lo->Rp.Canon lo l->∀y∈l,InR y
 | [],_,_,_,_,hy=>by cases hy
 |r::l,lo,hlo,h,y,hy=>by
  obtain⟨h1,h2,h3,h4⟩:=h
  unfold Rp.Most at h3
  rcases List.mem_cons.1 hy with rfl | hy
  ·unfold InR;omega
  ·exact oC l _ (by omega) h4 y hy
theorem yJ(l:List Run)(r:Run)(k:Nat)(hl:∀y∈l,InR y)(hr:InR r):(Rp.uK (uN l r k)).length<=k+1:=by
 obtain⟨_,h2,h3⟩:=U0 l r hl hr k
 unfold Rp.uK
 split
 ·exact h2
 ·rename_i hd
  have:=h3 (by simpa using hd)
  simp;omega
theorem Pn(l:List Run)(x:Run)(hl:∀y∈l,InR y):(Rp.put l x).length<=l.length+1:=by
 unfold Rp.put
 split
 ·rename_i hc
  have:=yJ l (Rp.clip x) l.length hl (by unfold InR;simp only[Rp.clip,Rp.Most]at *;omega)
  unfold uN at this
  rwa [List.take_of_length_le (Nat.le_refl _)]at this
 ·omega
theorem aa8(l:List Run)(k:Nat):Rp.Canon 0 (nAt l k)/\(nAt l k).length<=k:=by
 refine⟨(Rp.xI (l.take k) [] trivial).1, ?_⟩
 induction k with
 |zero=>simp[nAt]
 |succ k ih=>
  by_cases hk:k<l.length
  ·rw[U4 l k hk]
   have:=Pn (nAt l k) l[k] (oC _ 0 (Int.le_refl _) (Rp.xI (l.take k) [] trivial).1)
   omega
  ·have e:nAt l (k+1)=nAt l k:=by unfold nAt;rw[List.take_of_length_le (by omega),List.take_of_length_le (by omega)]
   rw[e];omega
end Go.Proofs.YteppebbmnojapaaGreatDoor
