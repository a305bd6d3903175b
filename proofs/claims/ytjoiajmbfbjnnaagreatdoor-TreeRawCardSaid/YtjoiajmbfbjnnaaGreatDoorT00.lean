/- Part of this proof. -/
import Derived.WalkKit
import Derived.WalkSpells
import Derived.WalkLawsBesides
import Derived.KernelRfl
import Derived.Lib.Hide
import Derived.BigQuiet
import Derived.Deep.QuietTactic
import Derived.Deep.Draws
import Derived.Deep.AppendLies
import Derived.Maps.AppendAt
import Derived.RegionTactic
import Derived.Lib.MinMax
import GoSem.Op.String
import Derived.Lib.Strings
import Derived.Deep.RegionLaw
import Derived.Test.YtjoiajmbfbjnnaaGreatDoorChecked
set_option maxRecDepth 100000
set_option maxHeartbeats 8000000
namespace Go.Proofs.YtjoiajmbfbjnnaaGreatDoor
open Go.RowKit
theorem block_of_add(a:Addr)(n:Nat):(a.add n).block=a.block:=by unfold Addr.add;split<;>rfl
theorem add_of_add(a:Addr)(i j:Nat):(a.add i).add j=a.add (i+j):=by
 unfold Addr.add
 by_cases hi:i=0<;>by_cases hj:j=0<;>simp[hi,hj,Nat.add_assoc]
def Reads(w:World)(B size:Nat)(A:Option Addr)(n:Nat)(xs:List Value):Prop:=
 xs.length=n*size/\(0<n->∃ad,A=some ad/\ad.block<B/\∀j u,xs[j]? =some u->w.cell? (ad.add j)=some u)
section
variable {w w':World}{B B' size n:Nat}{A:Option Addr}{xs:List Value}
theorem Reads.keep(h:Reads w B size A n xs)(hk:∀p:Addr,p.block<B->w'.cell? p=w.cell? p):Reads w' B size A n xs:=
 ⟨h.1,fun hn=>by
  obtain⟨ad,e,hb,hc⟩:=h.2 hn
  exact⟨ad,e,hb,fun j u hu=>(hk _ (by rw[block_of_add];exact hb)).trans (hc j u hu)⟩⟩
theorem Reads.more(h:Reads w B size A n xs)(hB:B<=B'):Reads w B' size A n xs:=
 ⟨h.1,fun hn=>by
  obtain⟨ad,e,hb,hc⟩:=h.2 hn
  exact⟨ad,e,by omega,hc⟩⟩
theorem Reads.below(h:Reads w B size A n xs)(hb:Below B w w'):Reads w' B size A n xs:=h.keep fun _ hp=>hb.cell hp
theorem Reads.alloc(h:Reads w B size A n xs)(hB:B<=w.heap.size)(o:Obj):Reads (w.alloc o) B size A n xs:=h.keep fun p hp=>World.cell?_alloc_lt w o p (by omega)
theorem Reads.cut(h:Reads w B size A n xs){k cap:Nat}(hk:k<=n)(hc:n<=cap):
  Reads w B size (if cap=k then A else A.map (·.add (k*size))) (n-k) (xs.drop (k*size)):=by
 refine⟨by rw[List.length_drop,h.1,Nat.sub_mul],fun hn=> ?_⟩
 obtain⟨ad,rfl,hb,hcell⟩:=h.2 (by omega)
 rw[if_neg (by omega)]
 refine⟨ad.add (k*size),rfl,by rw[block_of_add];exact hb,fun j u hu=> ?_⟩
 rw[add_of_add]
 exact hcell _ u (by rw[<-hu,List.getElem?_drop])
theorem Reads.of_own{base:Nat}{e:TypeId}{c:Nat}(h:w.ownsRow base e size (.slice A n c) n xs):Reads w w.heap.size size A n xs:=by
 refine⟨h.1,fun hn=> ?_⟩
 obtain⟨g,cap,hv,_,hlt⟩:=h.form hn
 have hA:A=some ⟨g,0,none⟩:=by injection hv
 subst hA
 exact⟨_,rfl,hlt,h.cells (g:=g) rfl⟩
end
def Blk(w:World)(g:Nat)(t:TypeId)(cs:Array Value):Prop:=w.heap[g]? =some (.cells cs t (0,0))
section
variable {w w':World}{g:Nat}{t:TypeId}{cs:Array Value}
theorem Blk.lt(h:Blk w g t cs):g<w.heap.size:=by
 rcases Nat.lt_or_ge g w.heap.size with hlt | hge
 ·exact hlt
 ·unfold Blk at h;rw[Array.getElem?_eq_none hge]at h;cases h
theorem Blk.cell(h:Blk w g t cs)(i:Nat):w.cell? ⟨g,i,none⟩=cs[i]? :=cell_of_row w g i cs t (0,0) h
theorem Blk.frozen(h:Blk w g t cs)(i:Nat):w.frozen? ⟨g,i,none⟩=false:=by
 unfold Blk at h
 simp[World.frozen?,h]
theorem Blk.new(w:World)(t:TypeId)(cs:Array Value):Blk (w.alloc (.cells cs t)) w.heap.size t cs:=heap_alloc_new w _
theorem Blk.drew(h:Blk w g t cs):Blk w.drew g t cs:=h
theorem Blk.alloc(h:Blk w g t cs)(o:Obj):Blk (w.alloc o) g t cs:=(Below.heap_alloc w o g h.lt).trans h
theorem Blk.set_(h:Blk w g t cs)(i:Nat)(u:Value):Blk (w.setCell ⟨g,i,none⟩ u) g t (cs.setIfInBounds i u):=by
 unfold Blk at h ⊢
 simp[World.setCell,Array.getElem?_modify,h]
theorem Blk.far(h:Blk w g t cs){p:Addr}(hp:g≠p.block)(u:Value):Blk (w.setCell p u) g t cs:=(Below.heap_setCell w p u g hp).trans h
theorem Blk.below{B:Nat}(h:Blk w g t cs)(hb:Below B w w')(hg:g<B):Blk w' g t cs:=(hb.block g hg).trans h
theorem Blk.grown{row:Option Nat}(h:Blk w g t cs)(hb:w.grownBy w' row)(hg:some g≠row):Blk w' g t cs:=(hb.block g h.lt hg).trans h
theorem Blk.ne_{g':Nat}{t':TypeId}{cs':Array Value}(h:Blk w g t cs)(h':Blk w g' t' cs')(hne:t≠t'):g≠g':=by
 rintro rfl
 unfold Blk at h h'
 rw[h]at h'
 injection h' with h'
 injection h' with _ ht
 exact hne ht
theorem own_blk_ne{base:Nat}{e:TypeId}{size n:Nat}{v:Value}{xs:List Value}(h:w.ownsRow base e size v n xs)(hg:Blk w g t cs)(hne:e≠t):v.ownBlock≠some g:=by
 rcases h.2 with⟨rfl,_⟩ | ⟨g',cap,cur,rfl,_,hh,_⟩
 ·simp[Value.ownBlock]
 ·intro he
  have:g'=g:=by simpa[Value.ownBlock]using he
  subst this
  exact Blk.ne_ (t:=e) hh hg hne rfl
end
section
variable {P:Program}(w:World)
theorem run_append_of_nil(base:Nat)(t ty e:TypeId)(i:TypeInfo)(size:Nat)(ht:P.underlying t=some (.slice e))(hi:P.info? e=some i)
  (v:Value) (n:Nat) (xs:List Value) (hown:w.ownsRow base e size v n xs) (c:Nat):(Builtin.append_ #[t,t] ty #[v, .slice none 0 c]).run P w= .ok v w:=by
 rcases hown.2 with⟨rfl,rfl⟩ | ⟨g,cap,cur,rfl,_,_,hnc,_⟩
 ·simp[Builtin.append_,run_underlying ht,sizeOf,typeInfo,hi,Builtin.lenOf,Builtin.firstCells]
 ·simp[Builtin.append_,run_underlying ht,sizeOf,typeInfo,hi,Builtin.lenOf,Builtin.firstCells,hnc,storeCells]
theorem run_append_any(base:Nat)(t ty e:TypeId)(i:TypeInfo)(z:Value)(size bytes:Nat)(ht:P.underlying t=some (.slice e))(hi:P.info? e=some i)(hz:i.zero=some z)
  (hsize:i.size=size) (hby:i.bytes=bytes) (hzs:z.cells.size=size) (hsz:0<size)
  (v:Value) (n:Nat) (xs:List Value) (hown:w.ownsRow base e size v n xs)
  (B:Nat) (A:Option Addr) (m c:Nat) (news:List Value) (hr:Reads w B size A m news) (h1:∀u∈news,u.oneCell'=true)
  (h63:n+m<=maxLen) (hbytes:(n+m)*bytes<=140737488355328) (hbase:base<=w.heap.size):
  ∃v' w',(Builtin.append_ #[t,t] ty #[v, .slice A m c]).run P w= .ok v' w'/\w'.ownsRow base e size v' (n+m) (xs++news)/\w.grownBy w' v.ownBlock/\
   (v'.ownBlock=v.ownBlock\/v'.ownBlock=some w.heap.size):=by
 rcases A with _ | ad
 ·have hm:m=0:=by
   rcases Nat.eq_zero_or_pos m with h0 | h0
   ·exact h0
   ·obtain⟨ad,h,_⟩:=hr.2 h0
    cases h
  subst hm
  have hn:news= []:=List.eq_nil_of_length_eq_zero (by simpa using hr.1)
  subst hn
  exact⟨v,w,run_append_of_nil w base t ty e i size ht hi v n xs hown c,by simpa using hown,World.grownBy.refl w _, .inl rfl⟩
 ·have hcells:∀j u,news[j]? =some u->w.cell? (ad.add j)=some u:=by
   intro j u hu
   rcases Nat.eq_zero_or_pos m with h0 | h0
   ·subst h0
    have hn:news= []:=List.eq_nil_of_length_eq_zero (by simpa using hr.1)
    subst hn
    simp at hu
   ·obtain⟨ad',h,_,hc⟩:=hr.2 h0
    injection h with h
    subst h
    exact hc j u hu
  obtain⟨v',w',hrun,h2,h3,_,h5⟩:=run_append_own_at (P:=P) w base t ty e i z size bytes ht hi hz hsize hby hzs hsz v n xs hown ad m c news hr.1 hcells h1 h63 hbytes hbase
  exact⟨v',w',hrun,h2,h3,h5⟩
theorem wp_append_any{o:Oper}{a:Act}{K:Act->World->Prop}{Q:Exit->Act->World->Prop}(s x:Operand)(t:TypeId)
  (ho:o.op= .call { callee:= .builtin .append,args:= #[s,x],argTypes:= #[t,t] })
  (base:Nat) (e:TypeId) (i:TypeInfo) (z:Value) (size bytes:Nat) (ht:P.underlying t=some (.slice e)) (hi:P.info? e=some i) (hz:i.zero=some z)
  (hsize:i.size=size) (hby:i.bytes=bytes) (hzs:z.cells.size=size) (hsz:0<size)
  (v:Value) (n:Nat) (xs:List Value) (hs:a.eval s=v) (hown:w.ownsRow base e size v n xs)
  (B:Nat) (A:Option Addr) (m c:Nat) (news:List Value) (hx:a.eval x= .slice A m c) (hr:Reads w B size A m news) (h1:∀u∈news,u.oneCell'=true)
  (h63:n+m<=maxLen) (hbytes:(n+m)*bytes<=140737488355328) (hbase:base<=w.heap.size)
  (h:∀v' w',w'.ownsRow base e size v' (n+m) (xs++news)->w.grownBy w' v.ownBlock->(v'.ownBlock=v.ownBlock\/v'.ownBlock=some w.heap.size)->K (a.put o.dst v') w'):o.wp P a w K Q:=by
 obtain⟨v',w',hrun,h2,h3,h4⟩:=run_append_any (P:=P) w base t o.type e i z size bytes ht hi hz hsize hby hzs hsz v n xs hown B A m c news hr h1 h63 hbytes hbase
 unfold Oper.wp execOp
 simp only[ho,resolve,invoke,builtin,Sem.run_bind,Sem.run_pure,Result.andThen_ok,List.map_toArray,List.map_cons,List.map_nil,hs,hx,hrun]
 exact h v' w' h2 h3 h4
theorem wpList_append_any{ops:Array Oper}{rest:List Oper}{o:Oper}{a:Act}{Q:Exit->Act->World->Prop}(hgd:o.guard=none)(s x:Operand)(t:TypeId)
  (ho:o.op= .call { callee:= .builtin .append,args:= #[s,x],argTypes:= #[t,t] })
  (base:Nat) (e:TypeId) (i:TypeInfo) (z:Value) (size bytes:Nat) (ht:P.underlying t=some (.slice e)) (hi:P.info? e=some i) (hz:i.zero=some z)
  (hsize:i.size=size) (hby:i.bytes=bytes) (hzs:z.cells.size=size) (hsz:0<size)
  (v:Value) (n:Nat) (xs:List Value) (hs:a.eval s=v) (hown:w.ownsRow base e size v n xs)
  (B:Nat) (A:Option Addr) (m c:Nat) (news:List Value) (hx:a.eval x= .slice A m c) (hr:Reads w B size A m news) (h1:∀u∈news,u.oneCell'=true)
  (h63:n+m<=maxLen) (hbytes:(n+m)*bytes<=140737488355328) (hbase:base<=w.heap.size)
  (h:∀v' w',w'.ownsRow base e size v' (n+m) (xs++news)->w.grownBy w' v.ownBlock->(v'.ownBlock=v.ownBlock\/v'.ownBlock=some w.heap.size)->wpList P ops Q rest (a.put o.dst v') w'):wpList P ops Q (o::rest) a w:=
 wpList_plain hgd fun _ hK=>wp_append_any w s x t ho base e i z size bytes ht hi hz hsize hby hzs hsz v n xs hs hown B A m c news hx hr h1 h63 hbytes hbase fun v' w' h2 h3 h4=>hK _ _ (h v' w' h2 h3 h4)
theorem step_append_any{ops:Array Oper}{o:Oper}{a:Act}{K:Act->World->Prop}{Q:Exit->Act->World->Prop}{E:Prop}(hgd:o.guard=none)(s x:Operand)(t:TypeId)
  (ho:o.op= .call { callee:= .builtin .append,args:= #[s,x],argTypes:= #[t,t] })
  (base:Nat) (e:TypeId) (i:TypeInfo) (z:Value) (size bytes:Nat) (ht:P.underlying t=some (.slice e)) (hi:P.info? e=some i) (hz:i.zero=some z)
  (hsize:i.size=size) (hby:i.bytes=bytes) (hzs:z.cells.size=size) (hsz:0<size)
  (v:Value) (n:Nat) (xs:List Value) (hs:a.eval s=v) (hown:w.ownsRow base e size v n xs)
  (B:Nat) (A:Option Addr) (m c:Nat) (news:List Value) (hx:a.eval x= .slice A m c) (hr:Reads w B size A m news) (h1:∀u∈news,u.oneCell'=true)
  (h63:n+m<=maxLen) (hbytes:(n+m)*bytes<=140737488355328) (hbase:base<=w.heap.size)
  (h:∀v' w',w'.ownsRow base e size v' (n+m) (xs++news)->w.grownBy w' v.ownBlock->(v'.ownBlock=v.ownBlock\/v'.ownBlock=some w.heap.size)->K (a.put o.dst v') w'):
  if Region.wanted o (yielded ops a.tmps)=true then Oper.wp P o a w K Q else E:=by
 have hw:Region.wanted o (yielded ops a.tmps)=true:=by simp[Region.wanted,hgd]
 rw[if_pos hw]
 exact wp_append_any w s x t ho base e i z size bytes ht hi hz hsize hby hzs hsz v n xs hs hown B A m c news hx hr h1 h63 hbytes hbase h
end
theorem below_drewN{B:Nat}{a w:World}(h:Below B a w)(n:Nat):Below B a (w.drewN n):=⟨h.os,h.tape,h.output,h.size,h.block⟩
theorem only_drew{a w:World}{row:Option Nat}(h:a.grownBy w row):a.grownBy w.drew row:=⟨h.os,h.tape,h.output,h.size,h.block⟩
theorem only_alloc{a w:World}{row:Option Nat}(h:a.grownBy w row)(o:Obj):a.grownBy (w.alloc o) row:=
 ⟨h.os,h.tape,h.output,Nat.le_trans h.size (by simp),fun i hi hne=>(Below.heap_alloc w o i (Nat.lt_of_lt_of_le hi h.size)).trans (h.block i hi hne)⟩
theorem only_setCell{a w:World}{g:Nat}(h:a.grownBy w (some g)){p:Addr}(hp:p.block=g\/a.heap.size<=p.block)(u:Value):a.grownBy (w.setCell p u) (some g):=
 ⟨h.os,h.tape,h.output,by simpa[World.setCell]using h.size,fun i hi hne=>(Below.heap_setCell w p u i (by
  rintro rfl
  rcases hp with hp | hp
  ·exact hne (by rw[hp])
  ·omega)).trans (h.block i hi hne)⟩
theorem only_of_below{a w:World}(h:Below a.heap.size a w)(row:Option Nat):a.grownBy w row:=⟨h.os,h.tape,h.output,h.size,fun i hi _=>h.block i hi⟩
theorem grown_of_none{a w:World}(h:a.grownBy w none)(row:Option Nat):a.grownBy w row:=⟨h.os,h.tape,h.output,h.size,fun i hi _=>h.block i hi (by simp)⟩
theorem below_of_grown{a w:World}{g B:Nat}(h:a.grownBy w (some g))(hB:B<=a.heap.size)(hg:B<=g):Below B a w:=(Below.refl B a).grown h hB (fun k e=>by cases e;exact hg)
theorem below_of_none{a w:World}{B:Nat}(h:a.grownBy w none)(hB:B<=a.heap.size):Below B a w:=(Below.refl B a).grown h hB (fun k e=>by cases e)
def EI(P:Program)(e:TypeId)(z:Value)(size bytes:Nat):Prop:=∃i,P.info? e=some i/\i.zero=some z/\i.size=size/\i.bytes=bytes
theorem EI.mk{P:Program}{e:TypeId}{z:Value}{size bytes:Nat}(h:(P.info? e).map (fun i=>(i.zero,i.size,i.bytes))=some (some z,size,bytes)):EI P e z size bytes:=by
 obtain⟨i,h1,h2,h3,h4⟩:=info_parts h
 exact⟨i,h1,h2,h3,h4⟩
section
variable {P:Program}{w:World}
theorem wpList_app1{ops:Array Oper}{rest:List Oper}{o:Oper}{a:Act}{Q:Exit->Act->World->Prop}(hgd:o.guard=none)(s x:Operand)(t:TypeId)
  (ho:o.op= .call { callee:= .builtin .append,args:= #[s,x],argTypes:= #[t,t] })
  {base:Nat} {e:TypeId} {z:Value} {size bytes:Nat} (hE:EI P e z size bytes) (ht:P.underlying t=some (.slice e)) (hzs:z.cells.size=size) (hsz:0<size)
  {v:Value} {n:Nat} {xs:List Value} (hs:a.eval s=v) (hown:w.ownsRow base e size v n xs)
  {cs:Array Value} {te:TypeId} {gx:Nat} (hx:a.eval x= .slice (some ⟨gx,0,none⟩) 1 1) (hgx:gx=w.heap.size) (hl:cs.size=size) (h1:∀u∈cs.toList,u.oneCell'=true)
  (hb63:n+1<=maxLen) (hbytes:(n+1)*bytes<=140737488355328) (hbase:base<=w.heap.size)
  (h:∀v' w',w'.ownsRow base e size v' (n+1) (xs++cs.toList)->w.grownBy w' v.ownBlock->Below base w w'->(v'.ownBlock=v.ownBlock\/∃g,v'.ownBlock=some g/\w.heap.size<=g)->v'≠ .slice none 0 0->
   wpList P ops Q rest (a.put o.dst v') w'):wpList P ops Q (o::rest) a (w.alloc (.cells cs te)):=by
 obtain⟨i,hi,hz0,hz1,hz2⟩:=hE
 subst hgx
 have hcell:∀j u,cs.toList[j]? =some u->(w.alloc (.cells cs te)).cell? ((⟨w.heap.size,0,none⟩:Addr).add j)=some u:=by
  intro j u hu
  have e1:((⟨w.heap.size,0,none⟩:Addr).add j)=⟨w.heap.size,j,none⟩:=by rw[Addr.add_lit];simp
  rw[e1,(Blk.new w te cs).cell j]
  simpa using hu
 obtain⟨v',w',hrun,h2,h3,h4,h5⟩:=run_append_own_at (P:=P) (w.alloc (.cells cs te)) base t o.type e i z size bytes ht hi hz0 hz1 hz2 hzs hsz v n xs (hown.alloc _) ⟨w.heap.size,0,none⟩ 1 1 cs.toList (by simp[hl]) hcell h1 hb63 hbytes (by simp;omega)
 have hg:w.grownBy w' v.ownBlock:=(World.grownBy_alloc w _ _).trans h3
 refine wpList_plain hgd fun K hK=> ?_
 unfold Oper.wp execOp
 simp only[ho,resolve,invoke,builtin,Sem.run_bind,Sem.run_pure,Result.andThen_ok,List.map_toArray,List.map_cons,List.map_nil,hs,hx,hrun]
 refine hK _ _ (h v' w' h2 hg ((Below.refl _ _).grown hg hbase fun k hk=> ?_) ?_ fun hc=> ?_)
 ·exact(hown.lt k hk).1
 ·rcases h5 with h5 | h5
  ·exact .inl h5
  ·exact .inr ⟨_,h5,by simp⟩
 ·have:=(h4.1 hc).2;omega
theorem step_app1{ops:Array Oper}{o:Oper}{a:Act}{K:Act->World->Prop}{Q:Exit->Act->World->Prop}{E:Prop}(hgd:o.guard=none)(s x:Operand)(t:TypeId)
  (ho:o.op= .call { callee:= .builtin .append,args:= #[s,x],argTypes:= #[t,t] })
  {base:Nat} {e:TypeId} {z:Value} {size bytes:Nat} (hE:EI P e z size bytes) (ht:P.underlying t=some (.slice e)) (hzs:z.cells.size=size) (hsz:0<size)
  {v:Value} {n:Nat} {xs:List Value} (hs:a.eval s=v) (hown:w.ownsRow base e size v n xs)
  {cs:Array Value} {te:TypeId} {gx:Nat} (hx:a.eval x= .slice (some ⟨gx,0,none⟩) 1 1) (hgx:gx=w.heap.size) (hl:cs.size=size) (h1:∀u∈cs.toList,u.oneCell'=true)
  (hb63:n+1<=maxLen) (hbytes:(n+1)*bytes<=140737488355328) (hbase:base<=w.heap.size)
  (h:∀v' w',w'.ownsRow base e size v' (n+1) (xs++cs.toList)->w.grownBy w' v.ownBlock->Below base w w'->K (a.put o.dst v') w'):
  if Region.wanted o (yielded ops a.tmps)=true then Oper.wp P o a (w.alloc (.cells cs te)) K Q else E:=by
 have hw:Region.wanted o (yielded ops a.tmps)=true:=by simp[Region.wanted,hgd]
 rw[if_pos hw]
 obtain⟨i,hi,hz0,hz1,hz2⟩:=hE
 subst hgx
 have hcell:∀j u,cs.toList[j]? =some u->(w.alloc (.cells cs te)).cell? ((⟨w.heap.size,0,none⟩:Addr).add j)=some u:=by
  intro j u hu
  have e1:((⟨w.heap.size,0,none⟩:Addr).add j)=⟨w.heap.size,j,none⟩:=by rw[Addr.add_lit];simp
  rw[e1,(Blk.new w te cs).cell j]
  simpa using hu
 obtain⟨v',w',hrun,h2,h3,h4,h5⟩:=run_append_own_at (P:=P) (w.alloc (.cells cs te)) base t o.type e i z size bytes ht hi hz0 hz1 hz2 hzs hsz v n xs (hown.alloc _) ⟨w.heap.size,0,none⟩ 1 1 cs.toList (by simp[hl]) hcell h1 hb63 hbytes (by simp;omega)
 have hg:w.grownBy w' v.ownBlock:=(World.grownBy_alloc w _ _).trans h3
 unfold Oper.wp execOp
 simp only[ho,resolve,invoke,builtin,Sem.run_bind,Sem.run_pure,Result.andThen_ok,List.map_toArray,List.map_cons,List.map_nil,hs,hx,hrun]
 exact h v' w' h2 hg ((Below.refl _ _).grown hg hbase fun k hk=>(hown.lt k hk).1)
theorem wpList_appN{ops:Array Oper}{rest:List Oper}{o:Oper}{a:Act}{Q:Exit->Act->World->Prop}(hgd:o.guard=none)(s x:Operand)(t:TypeId)
  (ho:o.op= .call { callee:= .builtin .append,args:= #[s,x],argTypes:= #[t,t] })
  {base:Nat} {e:TypeId} {z:Value} {size bytes:Nat} (hE:EI P e z size bytes) (ht:P.underlying t=some (.slice e)) (hzs:z.cells.size=size) (hsz:0<size)
  {v:Value} {n:Nat} {xs:List Value} (hs:a.eval s=v) (hown:w.ownsRow base e size v n xs)
  {B:Nat} {A:Option Addr} {m c:Nat} {news:List Value} (hx:a.eval x= .slice A m c) (hr:Reads w B size A m news) (h1:∀u∈news,u.oneCell'=true)
  (h63:n+m<=maxLen) (hbytes:(n+m)*bytes<=140737488355328) (hbase:base<=w.heap.size)
  (h:∀v' w',w'.ownsRow base e size v' (n+m) (xs++news)->w.grownBy w' v.ownBlock->Below base w w'->wpList P ops Q rest (a.put o.dst v') w'):wpList P ops Q (o::rest) a w:=by
 obtain⟨i,hi,hz0,hz1,hz2⟩:=hE
 refine wpList_append_any w hgd s x t ho base e i z size bytes ht hi hz0 hz1 hz2 hzs hsz v n xs hs hown B A m c news hx hr h1 h63 hbytes hbase fun v' w' h2 h3 _=>h v' w' h2 h3 ((Below.refl _ _).grown h3 hbase fun k hk=>(hown.lt k hk).1)
def encB(b:UInt8):Value:= .int .u8 (b.toNat:Int)
theorem encB_ofNat(k:Nat):encB (UInt8.ofNat k)= .int .u8 ((k % 256:Nat):Int):=by unfold encB;simp
theorem str_of_own{src dst e:TypeId}{base:Nat}{v:Value}{l:List UInt8}{n:Nat}(hs:P.underlying src=some (.slice e))(he:P.underlying e=some (.int .u8))(hd:P.underlying dst=some .string)
  (h:w.ownsRow base e 1 v n (l.map encB)):(convert src dst v).run P w= .ok (.string ⟨l.toArray⟩) w:=by
 have hn:l.length=n:=by have:=h.1;simpa using this
 rcases h.2 with⟨rfl,h0⟩ | ⟨g,cap,cur,rfl,_⟩
 ·subst h0
  have:l= []:=List.eq_nil_of_length_eq_zero hn
  subst this
  rw[run_convert_bytes_string w src dst e none 0 0 hs he hd];rfl
 ·subst hn
  refine run_convert_bytes_back w src dst e _ cap l hs he hd fun j hj=> ?_
  have:=h.cells (g:=g) rfl j (encB l[j]) (by simp[hj])
  exact this
theorem str_of_new{src dst e:TypeId}(W:World)(x:Int)(te:TypeId)(c:Nat)(hs:P.underlying src=some (.slice e))(he:P.underlying e=some (.int .u8))(hd:P.underlying dst=some .string):
  (convert src dst (.slice (some ⟨W.heap.size,0,none⟩) 1 c)).run P (W.alloc (.cells #[.int .u8 x] te))= .ok (.string ⟨[UInt8.ofNat x.toNat].toArray⟩) (W.alloc (.cells #[.int .u8 x] te)):=by
 rw[run_convert_bytes_string _ src dst e _ 1 c hs he hd]
 have hl:=run_loadCells_list (P:=P) (W.alloc (.cells #[.int .u8 x] te)) ⟨W.heap.size,0,none⟩ ([x].map (Value.int .u8)) (fun j v hj=>by
  have:j=0:=by
   have:=(List.getElem?_eq_some_iff.1 hj).1
   simp at this;omega
  subst this
  simp at hj
  subst hj
  rw[Addr.add_lit]
  exact(Blk.new W te #[.int .u8 x]).cell 0)
 rw[run_bytesToString _ _ 1 c [x] hl]
 rfl
theorem bytes_of_str{src dst e:TypeId}(W:World)(l:List UInt8)(hs:P.underlying src=some .string)(hd:P.underlying dst=some (.slice e))(he:P.underlying e=some (.int .u8)):
  ∃cap W',(convert src dst (.string ⟨l.toArray⟩)).run P W= .ok (.slice (some ⟨W.heap.size,0,none⟩) l.length cap) W'/\W.grownBy W' none/\(∀ (j:Nat) (hj:j<l.length),W'.cell? ⟨W.heap.size,j,none⟩=some (.int .u8 (l[j].toNat:Int))):=by
 refine⟨_,_,run_bytes_of_string W src dst e ⟨l.toArray⟩ hs hd he, ?_,fun j hj=> ?_⟩
 ·exact only_alloc (only_drew (World.grownBy.refl W none)) _
 ·rw[show W.heap.size=W.drew.heap.size from rfl,World.cell?_alloc_mark,bytesRow_at _ _ _ (by simpa using hj)]
  simp
end
structure Enc(α:Type) where
 enc:α->List Value
 size:Nat
 len:∀x,(enc x).length=size
 pos:0<size
 one:∀x,∀u∈enc x,u.oneCell'=true
section
variable {α:Type}{E:Enc α}{w w':World}{B:Nat}{A:Option Addr}{l:List α}
def Enc.cells(E:Enc α)(l:List α):List Value:=l.flatMap E.enc
theorem Enc.cells_length(E:Enc α)(l:List α):(E.cells l).length=l.length*E.size:=by
 induction l with
 |nil=>simp[Enc.cells]
 |cons r l ih=>unfold Enc.cells at *;rw[List.flatMap_cons,List.length_append,ih,List.length_cons,E.len,Nat.succ_mul];omega
theorem Enc.cells_append(E:Enc α)(a b:List α):E.cells (a++b)=E.cells a++E.cells b:=by unfold Enc.cells;rw[List.flatMap_append]
theorem Enc.cells_one(E:Enc α)(x:α):E.cells [x]=E.enc x:=by simp[Enc.cells]
theorem Enc.cells_snoc(E:Enc α)(l:List α)(x:α):E.cells (l++ [x])=E.cells l++E.enc x:=by rw[E.cells_append,E.cells_one]
theorem Enc.cells_cons(E:Enc α)(x:α)(l:List α):E.cells (x::l)=E.enc x++E.cells l:=by unfold Enc.cells;rw[List.flatMap_cons]
theorem Enc.cells_at(E:Enc α)(l:List α)(k:Nat)(hk:k<l.length)(j:Nat)(hj:j<E.size):(E.cells l)[k*E.size+j]? =(E.enc l[k])[j]? :=by
 induction l generalizing k with
 |nil=>simp at hk
 |cons r l ih=>
  rw[E.cells_cons]
  cases k with
  |zero=>rw[Nat.zero_mul,Nat.zero_add,List.getElem?_append_left (by rw[E.len];exact hj)];rfl
  |succ k=>
   have:=ih k (by simpa using hk)
   rw[List.getElem?_append_right (by rw[E.len,Nat.succ_mul];omega),E.len,Nat.succ_mul,show k*E.size+E.size+j-E.size=k*E.size+j by omega,this]
   rfl
theorem Enc.cells_all(E:Enc α)(l:List α):∀u∈E.cells l,u.oneCell'=true:=by
 intro u hu
 unfold Enc.cells at hu
 obtain⟨r,_,hr⟩:=List.mem_flatMap.1 hu
 exact E.one r u hr
theorem Enc.cells_drop(E:Enc α)(l:List α)(k:Nat):(E.cells l).drop (k*E.size)=E.cells (l.drop k):=by
 induction l generalizing k with
 |nil=>simp[Enc.cells]
 |cons r l ih=>
  cases k with
  |zero=>simp
  |succ k=>
   rw[E.cells_cons,Nat.succ_mul,List.drop_append,E.len,List.drop_of_length_le (by rw[E.len];omega),List.nil_append,show k*E.size+E.size-E.size=k*E.size by omega,ih]
   rfl
theorem Enc.cells_take(E:Enc α)(l:List α)(k:Nat):(E.cells l).take (k*E.size)=E.cells (l.take k):=by
 induction l generalizing k with
 |nil=>simp[Enc.cells]
 |cons r l ih=>
  cases k with
  |zero=>simp[Enc.cells]
  |succ k=>
   rw[E.cells_cons,Nat.succ_mul,List.take_append,E.len,List.take_of_length_le (by rw[E.len];omega),show k*E.size+E.size-E.size=k*E.size by omega,ih, <-E.cells_cons]
   rfl
def LS(E:Enc α)(w:World)(B:Nat)(A:Option Addr)(l:List α):Prop:=Reads w B E.size A l.length (E.cells l)
theorem LS.at_(h:LS E w B A l){k:Nat}(hk:k<l.length):∃b off,A=some ⟨b,off,none⟩/\b<B/\∀j,j<E.size->w.cell? ⟨b,off+k*E.size+j,none⟩=(E.enc l[k])[j]? :=by
 obtain⟨ad,rfl,hb,hc⟩:=h.2 (by omega)
 obtain⟨b,off,spot⟩:=ad
 have hs:spot=none:=by
  have h0:=E.cells_at l 0 (by omega) 0 E.pos
  rw[List.getElem?_eq_getElem (l:=E.enc (l[0]'(by omega))) (by rw[E.len];exact E.pos)]at h0
  have:=hc _ _ h0
  simpa[Addr.add]using World.cell?_spot this
 subst hs
 refine⟨b,off,rfl,hb,fun j hj=> ?_⟩
 have h0:=E.cells_at l k hk j hj
 rw[List.getElem?_eq_getElem (l:=E.enc l[k]) (by rw[E.len];exact hj)]at h0
 have:=hc _ _ h0
 rw[Addr.add_lit]at this
 rw[Nat.add_assoc,this, <-h0,E.cells_at l k hk j hj]
theorem LS.below(h:LS E w B A l)(hb:Below B w w'):LS E w' B A l:=Reads.below h hb
theorem LS.more{B':Nat}(h:LS E w B A l)(hB:B<=B'):LS E w B' A l:=Reads.more h hB
theorem LS.up(h:LS E w w.heap.size A l)(hb:Below w.heap.size w w'):LS E w' w'.heap.size A l:=(h.below hb).more hb.size
theorem LS.nil_:LS E w B A []:=⟨by simp[Enc.cells],fun h=>absurd h (by simp)⟩
theorem LS.cut(h:LS E w B A l){k cap:Nat}(hk:k<=l.length)(hc:l.length<=cap):LS E w B (if cap=k then A else A.map (·.add (k*E.size))) (l.drop k):=by
 have:=Reads.cut (size:=E.size) h hk hc
 unfold LS
 rw[List.length_drop, <-E.cells_drop]
 exact this
theorem LS.take_(h:LS E w B A l)(k:Nat):LS E w B A (l.take k):=by
 unfold LS
 refine⟨E.cells_length _,fun hn=> ?_⟩
 obtain⟨ad,e,hb,hc⟩:=h.2 (by rw[List.length_take]at hn;omega)
 refine⟨ad,e,hb,fun j u hu=>hc j u ?_⟩
 rw[<-E.cells_take]at hu
 rw[List.getElem?_take]at hu
 split at hu
 ·exact hu
 ·cases hu
def LO(E:Enc α)(ty:TypeId)(w:World)(base:Nat)(v:Value)(l:List α):Prop:=w.ownsRow base ty E.size v l.length (E.cells l)
section
variable {ty:TypeId}{base:Nat}{v:Value}
theorem LO.nil_(w:World)(base:Nat):LO E ty w base (.slice none 0 0) []:=World.ownsRow_nil _ _ _ _
theorem LO.raw(h:LO E ty w base v l){n s:Nat}(hn:l.length=n)(hs:E.size=s):w.ownsRow base ty s v n (E.cells l):=by subst hn hs;exact h
theorem LO.form(h:LO E ty w base v l):∃A c,v= .slice A l.length c:=by
 rcases h.2 with⟨rfl,h0⟩ | ⟨g,cap,cur,rfl,_⟩
 ·exact⟨none,0,by rw[h0]⟩
 ·exact⟨_,_,rfl⟩
theorem LO.ls{n c:Nat}(h:LO E ty w base (.slice A n c) l):LS E w w.heap.size A l:=by
 obtain⟨A',c',e⟩:=h.form
 injection e with e1 e2 e3
 subst e1 e2
 exact Reads.of_own h
theorem own_lower{e size n:Nat}{xs:List Value}{base':Nat}(h:w.ownsRow base e size v n xs)(hb:base'<=base):w.ownsRow base' e size v n xs:=by
 refine⟨h.1, ?_⟩
 rcases h.2 with h0 | ⟨g,cap,cur,h1,h2,h3⟩
 ·exact .inl h0
 ·exact .inr ⟨g,cap,cur,h1,Nat.le_trans hb h2,h3⟩
theorem own_below{e size n:Nat}{xs:List Value}(h:w.ownsRow base e size v n xs)(hb:Below w.heap.size w w'):w'.ownsRow base e size v n xs:=by
 refine⟨h.1, ?_⟩
 rcases h.2 with h0 | ⟨g,cap,cur,h1,h2,h3,h4⟩
 ·exact .inl h0
 ·refine .inr ⟨g,cap,cur,h1,h2, ?_,h4⟩
  rw[hb.block g ?_];exact h3
  rcases Nat.lt_or_ge g w.heap.size with hlt | hge
  ·exact hlt
  ·rw[Array.getElem?_eq_none hge]at h3;cases h3
theorem own_form{e size n:Nat}{xs:List Value}(h:w.ownsRow base e size v n xs):∃A c,v= .slice A n c:=by
 rcases h.2 with⟨rfl,h0⟩ | ⟨g,cap,cur,rfl,_⟩
 ·exact⟨none,0,by rw[h0]⟩
 ·exact⟨_,_,rfl⟩
theorem LO.below(h:LO E ty w base v l)(hb:Below w.heap.size w w'):LO E ty w' base v l:=own_below h hb
theorem LO.lower{base':Nat}(h:LO E ty w base v l)(hb:base'<=base):LO E ty w base' v l:=own_lower h hb
theorem LO.snoc{x:α}{cs:List Value}{n s:Nat}(hn:l.length=n)(hs:E.size=s)(hc:cs=E.enc x)(h:w.ownsRow base ty s v (n+1) (E.cells l++cs)):LO E ty w base v (l++ [x]):=by
 subst hn hs hc
 unfold LO
 rw[List.length_append,E.cells_snoc]
 exact h
theorem LO.keep{row:Option Nat}(h:LO E ty w base v l)(hg:w.grownBy w' row)(hr:∀r,row=some r->∃o,w.heap[r]? =some o/\∀cs,o≠ .cells cs ty (0,0)):LO E ty w' base v l:=by
 rcases h with⟨h1,h2 | ⟨g,cap,cur,hv,hb,hh,r⟩⟩
 ·exact⟨h1, .inl h2⟩
 ·refine⟨h1, .inr ⟨g,cap,cur,hv,hb,(hg.block g (Array.getElem?_eq_some_iff.1 hh).1 ?_).trans hh,r⟩⟩
  intro e
  obtain⟨o,ho,hne⟩:=hr g e.symm
  rw[hh]at ho;cases ho
  exact hne cur rfl
def LEnd(E:Enc α)(ty:TypeId)(o:List α)(w:World)(e:Ending)(w':World):Prop:=∃v,e= .returned v/\LO E ty w' w.heap.size v o/\Below w.heap.size w w'
theorem LEnd.open_{e:Ending}(h:LEnd E ty l w e w'):∃A c,e= .returned (.slice A l.length c)/\LO E ty w' w.heap.size (.slice A l.length c) l/\LS E w' w'.heap.size A l/\Below w.heap.size w w':=by
 obtain⟨v,rfl,ho,hb⟩:=h
 obtain⟨A,c,rfl⟩:=ho.form
 exact⟨A,c,rfl,ho,ho.ls,hb⟩
end
end
theorem own_obj{w:World}{base e size c:Nat}{v:Value}{xs:List Value}(h:w.ownsRow base e size v c xs){r:Nat}(hr:v.ownBlock=some r):∃cs,w.heap[r]? =some (.cells cs e (0,0)):=by
 rcases h.2 with⟨rfl,_⟩ | ⟨g,cap,cur,rfl,_,h3,_⟩
 ·simp[Value.ownBlock]at hr
 ·simp[Value.ownBlock]at hr;subst hr;exact⟨_,h3⟩
theorem keep_row{w w':World}{base e size c:Nat}{v:Value}{xs:List Value}(h:w.ownsRow base e size v c xs){base2 e2 size2 c2:Nat}{v2:Value}{xs2:List Value}(h2:w.ownsRow base2 e2 size2 v2 c2 xs2)(hne:e≠e2)(hg:w.grownBy w' v2.ownBlock):w'.ownsRow base e size v c xs:=by
 refine⟨h.1, ?_⟩
 rcases h.2 with h0 | ⟨g,cap,cur,g1,g2,g3,g4⟩
 ·exact .inl h0
 ·refine .inr ⟨g,cap,cur,g1,g2, ?_,g4⟩
  rw[hg.block g (Array.getElem?_eq_some_iff.1 g3).1 ?_];exact g3
  intro hr
  obtain⟨cs,hcs⟩:=own_obj h2 hr.symm
  rw[g3]at hcs
  injection hcs with hcs;injection hcs with _ hcs;exact hne hcs
theorem LO.set_{w:World}{base g:Nat}{α:Type}{E:Enc α}{ty ty':TypeId}{cs:Array Value}{v:Value}{l:List α}{i:Nat}{u:Value}(h:LO E ty w base v l)(hB:Blk w g ty' cs)(hne:ty'≠ty):LO E ty (w.setCell ⟨g,i,none⟩ u) base v l:=
 h.keep (only_setCell (World.grownBy.refl w (some g)) (.inl rfl) u) fun r e=>by
  cases e;exact⟨_,hB,fun cs e=>by injection e with _ e;exact hne e⟩
end Go.Proofs.YtjoiajmbfbjnnaaGreatDoor
namespace En
abbrev Str:=ByteArray
def lt(a b:Str):Bool:=Go.Op.bytesLess a.toList b.toList
theorem bl_irrefl:∀a:List UInt8,Go.Op.bytesLess a a=false
 | []=>rfl
 |x::a=>by simp[Go.Op.bytesLess,bl_irrefl a]
theorem bl_trans:∀a b c:List UInt8,Go.Op.bytesLess a b=true->Go.Op.bytesLess b c=true->Go.Op.bytesLess a c=true
 |_, [],_,h,_=>by cases ‹List UInt8› <;>simp[Go.Op.bytesLess]at h
 |_,_::_, [],_,h=>by simp[Go.Op.bytesLess]at h
 | [],_::_,_::_,_,_=>by simp[Go.Op.bytesLess]
 |x::a,y::b,z::c,h1,h2=>by
  simp only[Go.Op.bytesLess,Bool.or_eq_true,decide_eq_true_eq,Bool.and_eq_true,beq_iff_eq,UInt8.lt_iff_toNat_lt]at*
  rcases h1 with h1 | ⟨rfl,h1⟩<;>rcases h2 with h2 | ⟨rfl,h2⟩
  ·exact .inl (by omega)
  ·exact .inl h1
  ·exact .inl h2
  ·exact .inr ⟨rfl,bl_trans a b c h1 h2⟩
theorem bl_tri:∀a b:List UInt8,Go.Op.bytesLess a b=true\/a=b\/Go.Op.bytesLess b a=true
 | [], []=> .inr (.inl rfl)
 | [],_::_=> .inl rfl
 |_::_, []=> .inr (.inr rfl)
 |x::a,y::b=>by
  simp only[Go.Op.bytesLess,Bool.or_eq_true,decide_eq_true_eq,Bool.and_eq_true,beq_iff_eq,UInt8.lt_iff_toNat_lt,List.cons.injEq]
  rcases Nat.lt_trichotomy x.toNat y.toNat with h | h | h
  ·exact .inl (.inl h)
  ·have e:x=y:=UInt8.toNat_inj.1 h
   subst e
   rcases bl_tri a b with h1 | h1 | h1
   ·exact .inl (.inr ⟨rfl,h1⟩)
   ·exact .inr (.inl ⟨rfl,h1⟩)
   ·exact .inr (.inr (.inr ⟨rfl,h1⟩))
  ·exact .inr (.inr (.inl h))
theorem toList_inj{a b:Str}(h:a.toList=b.toList):a=b:=by
 rw[Go.Lib.toList_data,Go.Lib.toList_data]at h
 exact ByteArray.ext (Array.toList_inj.1 h)
theorem lt_irrefl(a:Str):lt a a=false:=bl_irrefl _
theorem lt_trans{a b c:Str}(h:lt a b=true)(h':lt b c=true):lt a c=true:=bl_trans _ _ _ h h'
theorem lt_tri(a b:Str):lt a b=true\/a=b\/lt b a=true:=by
 rcases bl_tri a.toList b.toList with h | h | h
 ·exact .inl h
 ·exact .inr (.inl (toList_inj h))
 ·exact .inr (.inr h)
theorem lt_ne{a b:Str}(h:lt a b=true):a≠b:=fun e=>by subst e;rw[lt_irrefl]at h;cases h
theorem lt_not{a b:Str}(h:lt a b=true):lt b a=false:=by
 cases h':lt b a with
 |false=>rfl
 |true=>have:=lt_trans h h';rw[lt_irrefl]at this;cases this
theorem ge_of{a b:Str}(h:lt a b=false):a=b\/lt b a=true:=by
 rcases lt_tri a b with h' | h' | h'
 ·rw[h]at h';cases h'
 ·exact .inl h'
 ·exact .inr h'
theorem lt_of_lt_ge{a b c:Str}(h:lt a b=true)(h':lt c b=false):lt a c=true:=by
 rcases ge_of h' with e | e
 ·subst e;exact h
 ·exact lt_trans h e
def eqs(a b:Str):Bool:=a.toList==b.toList
theorem eqs_iff{a b:Str} :eqs a b=true ↔ a=b:=by
 unfold eqs;rw[beq_iff_eq];exact⟨toList_inj,fun h=>by rw[h]⟩
theorem eqs_self(a:Str):eqs a a=true:=eqs_iff.2 rfl
theorem eqs_no{a b:Str}(h:a≠b):eqs a b=false:=by
 cases e:eqs a b with
 |false=>rfl
 |true=>exact absurd (eqs_iff.1 e) h
theorem eqs_false{a b:Str} :eqs a b=false ↔ a≠b:=⟨fun h e=>(by rw[e,eqs_self]at h;cases h),eqs_no⟩
abbrev Ent:=Str × Str
def may(k v:Str):Bool:=decide (1<=k.size)&&decide (k.size<=16)&&decide (v.size<=40)
def ahead(p:Option Str)(k:Str):Bool:=match p with | none=>true | some y=>lt y k
def rightFrom:Option Str->List Ent->Bool
 |_, []=>true
 |p,x::l=>may x.1 x.2&&ahead p x.1&&rightFrom (some x.1) l
def right(l:List Ent):Bool:=rightFrom none l
def Srt(l:List Ent):Prop:=l.Pairwise fun x y=>lt x.1 y.1=true
theorem rightFrom_iff:∀ (l:List Ent) (p:Option Str),rightFrom p l=true ↔ (∀x∈l,may x.1 x.2=true)/\(∀y,p=some y->∀x∈l,lt y x.1=true)/\Srt l
 | [],p=>by simp[rightFrom,Srt]
 |x::l,p=>by
  rw[rightFrom,Bool.and_eq_true,Bool.and_eq_true,rightFrom_iff l (some x.1)]
  unfold Srt
  rw[List.pairwise_cons]
  constructor
  ·rintro⟨⟨h1,h2⟩,h3,h4,h5⟩
   refine⟨fun y hy=> ?_,fun y hy z hz=> ?_,fun y hy=>h4 _ rfl y hy,h5⟩
   ·rcases List.mem_cons.1 hy with rfl | hy
    ·exact h1
    ·exact h3 y hy
   ·subst hy
    unfold ahead at h2;simp only at h2
    rcases List.mem_cons.1 hz with rfl | hz
    ·exact h2
    ·exact lt_trans h2 (h4 _ rfl z hz)
  ·rintro⟨h1,h2,h3,h4⟩
   refine⟨⟨h1 x List.mem_cons_self, ?_⟩,fun y hy=>h1 y (List.mem_cons_of_mem _ hy),fun y hy z hz=> ?_,h4⟩
   ·cases p with
    |none=>rfl
    |some y=>exact h2 y rfl x List.mem_cons_self
   ·injection hy with hy;subst hy;exact h3 z hz
theorem right_iff(l:List Ent):right l=true ↔ (∀x∈l,may x.1 x.2=true)/\Srt l:=by
 unfold right
 rw[rightFrom_iff]
 exact⟨fun h=>⟨h.1,h.2.2⟩,fun h=>⟨h.1,(fun y hy=>by cases hy),h.2⟩⟩
def prev(l:List Ent)(k:Nat):Option Str:=if k=0 then none else(l[k-1]?).map (·.1)
theorem right_at(l:List Ent)(k:Nat)(hk:k<l.length):rightFrom (prev l k) (l.drop k)=(may l[k].1 l[k].2&&ahead (prev l k) l[k].1&&rightFrom (prev l (k+1)) (l.drop (k+1))):=by
 rw[List.drop_eq_getElem_cons hk,rightFrom]
 have e:prev l (k+1)=some l[k].1:=by unfold prev;rw[if_neg (by omega)];simp[hk]
 rw[e]
theorem prev_succ(l:List Ent)(k:Nat)(hk:k<l.length)(h0:0<k):prev l k=some (l[k-1]'(by omega)).1:=by
 unfold prev;rw[if_neg (by omega)];simp[show k-1<l.length by omega]
def del(l:List Ent)(k:Str):List Ent:=l.filter fun x=> !eqs x.1 k
def ins(x:Ent):List Ent->List Ent
 | []=> [x]
 |y::l=>if lt x.1 y.1 then x::y::l else y::ins x l
def put(l:List Ent)(k v:Str):List Ent:=ins (k,v) (del l k)
def get(l:List Ent)(k:Str):Option Str:=(l.find? fun x=>eqs x.1 k).map (·.2)
theorem srt_cons{x:Ent}{l:List Ent} :Srt (x::l) ↔ (∀y∈l,lt x.1 y.1=true)/\Srt l:=List.pairwise_cons
theorem srt_del{l:List Ent}(h:Srt l)(k:Str):Srt (del l k):=List.Pairwise.sublist List.filter_sublist h
theorem mem_del{l:List Ent}{k:Str}{x:Ent} :x∈del l k ↔ x∈l/\x.1≠k:=by
 unfold del;rw[List.mem_filter,Bool.not_eq_true',eqs_false]
theorem mem_ins{x z:Ent} :∀ {l:List Ent},z∈ins x l ↔ z=x\/z∈l
 | []=>by simp[ins]
 |y::l=>by
  unfold ins
  split
  ·simp
  ·rw[List.mem_cons,mem_ins,List.mem_cons]
   constructor
   ·rintro(h | h | h)
    ·exact .inr (.inl h)
    ·exact .inl h
    ·exact .inr (.inr h)
   ·rintro(h | h | h)
    ·exact .inr (.inl h)
    ·exact .inl h
    ·exact .inr (.inr h)
theorem srt_ins{x:Ent} :∀ {l:List Ent},Srt l->(∀y∈l,y.1≠x.1)->Srt (ins x l)
 | [],_,_=>by simp[ins,Srt]
 |y::l,h,hn=>by
  obtain⟨h1,h2⟩:=srt_cons.1 h
  unfold ins
  split
  ·rename_i hx
   refine srt_cons.2 ⟨fun z hz=> ?_,h⟩
   rcases List.mem_cons.1 hz with rfl | hz
   ·exact hx
   ·exact lt_trans hx (h1 z hz)
  ·rename_i hx
   refine srt_cons.2 ⟨fun z hz=> ?_,srt_ins h2 fun z hz=>hn z (List.mem_cons_of_mem _ hz)⟩
   rcases mem_ins.1 hz with rfl | hz
   ·rcases ge_of (by simpa using hx)with e | e
    ·exact absurd e.symm (hn y List.mem_cons_self)
    ·exact e
   ·exact h1 z hz
theorem srt_put{l:List Ent}(h:Srt l)(k v:Str):Srt (put l k v):=srt_ins (srt_del h k) fun _ hy=>(mem_del.1 hy).2
theorem mem_put{l:List Ent}{k v:Str}{z:Ent} :z∈put l k v ↔ z=(k,v)\/(z∈l/\z.1≠k):=by
 unfold put;rw[mem_ins,mem_del]
theorem right_put{l:List Ent}{k v:Str}(h:right l=true)(hm:may k v=true):right (put l k v)=true:=by
 obtain⟨h1,h2⟩:=(right_iff l).1 h
 refine(right_iff _).2 ⟨fun x hx=> ?_,srt_put h2 k v⟩
 rcases mem_put.1 hx with rfl | hx
 ·exact hm
 ·exact h1 x hx.1
theorem right_del{l:List Ent}{k:Str}(h:right l=true):right (del l k)=true:=by
 obtain⟨h1,h2⟩:=(right_iff l).1 h
 exact(right_iff _).2 ⟨fun x hx=>h1 x (mem_del.1 hx).1,srt_del h2 k⟩
theorem srt_ext:∀ {a b:List Ent},Srt a->Srt b->(∀x,x∈a ↔ x∈b)->a=b
 | [], [],_,_,_=>rfl
 | [],y::b,_,_,h=>absurd ((h y).2 List.mem_cons_self) List.not_mem_nil
 |x::a, [],_,_,h=>absurd ((h x).1 List.mem_cons_self) List.not_mem_nil
 |x::a,y::b,ha,hb,h=>by
  obtain⟨a1,a2⟩:=srt_cons.1 ha
  obtain⟨b1,b2⟩:=srt_cons.1 hb
  have e:x=y:=by
   rcases List.mem_cons.1 ((h x).1 List.mem_cons_self)with e | hx
   ·exact e
   ·rcases List.mem_cons.1 ((h y).2 List.mem_cons_self)with e | hy
    ·exact e.symm
    ·have h1:=lt_trans (b1 x hx) (a1 y hy);rw[lt_irrefl]at h1;cases h1
  subst e
  rw[srt_ext a2 b2 fun z=> ?_]
  have hz:=h z
  rw[List.mem_cons,List.mem_cons]at hz
  constructor
  ·intro hm
   rcases hz.1 (.inr hm)with rfl | h'
   ·have:=a1 _ hm;rw[lt_irrefl]at this;cases this
   ·exact h'
  ·intro hm
   rcases hz.2 (.inr hm)with rfl | h'
   ·have:=b1 _ hm;rw[lt_irrefl]at this;cases this
   ·exact h'
theorem at_put{l:List Ent}(hs:Srt l){k v:Str}{i:Nat}(hi:i<=l.length)(h1:∀j (hj:j<l.length),j<i->lt l[j].1 k=true)(h2:∀j (hj:j<l.length),i<=j->lt l[j].1 k=false):
  (∀ (h:i<l.length),l[i].1=k->l.set i (k,v)=put l k v/\l.take i++l.drop (i+1)=del l k)/\((∀ (h:i<l.length),l[i].1≠k)->l.take i++(k,v)::l.drop i=put l k v/\del l k=l):=by
 have key:∀j (hj:j<l.length),l[j].1=k->j=i:=by
  intro j hj e
  by_cases hji:j<i
  ·have:=h1 j hj hji;rw[e,lt_irrefl]at this;cases this
  ·by_cases e2:j=i
   ·exact e2
   ·have h3:=List.pairwise_iff_getElem.1 hs i j (by omega) hj (by omega)
    rw[e,h2 i (by omega) (Nat.le_refl _)]at h3;cases h3
 constructor
 ·intro hil e
  have hset:Srt (l.set i (k,v)):=by
   unfold Srt
   rw[List.pairwise_iff_getElem]
   intro p q hp hq hpq
   have h3:=List.pairwise_iff_getElem.1 hs p q (by simpa using hp) (by simpa using hq) hpq
   rw[List.getElem_set,List.getElem_set]
   by_cases ep:i=p<;>by_cases eq:i=q
   ·omega
   ·rw[if_pos ep,if_neg eq];subst ep;simp only;rw[e]at h3;exact h3
   ·rw[if_neg ep,if_pos eq];subst eq;simp only;rw[e]at h3;exact h3
   ·rw[if_neg ep,if_neg eq];exact h3
  refine⟨srt_ext hset (srt_put hs k v) fun z=> ?_,srt_ext ?_ (srt_del hs k) fun z=> ?_⟩
  ·rw[mem_put,List.mem_iff_getElem]
   constructor
   ·rintro⟨j,hj,rfl⟩
    rw[List.getElem_set]
    by_cases ej:i=j
    ·rw[if_pos ej];exact .inl rfl
    ·rw[if_neg ej];exact .inr ⟨List.getElem_mem _,fun e'=>ej (key j (by simpa using hj) e').symm⟩
   ·rintro(rfl | ⟨hz,hzk⟩)
    ·exact⟨i,by simpa using hil,by simp⟩
    ·obtain⟨j,hj,rfl⟩:=List.getElem_of_mem hz
     refine⟨j,by simpa using hj, ?_⟩
     rw[List.getElem_set,if_neg]
     rintro rfl
     exact hzk e
  ·rw[<-List.eraseIdx_eq_take_drop_succ]
   exact List.Pairwise.sublist (List.eraseIdx_sublist l i) hs
  ·rw[mem_del, <-List.eraseIdx_eq_take_drop_succ,List.mem_eraseIdx_iff_getElem]
   constructor
   ·rintro⟨j,hj,hne,rfl⟩
    exact⟨List.getElem_mem _,fun e'=>hne (key j hj e')⟩
   ·rintro⟨hz,hzk⟩
    obtain⟨j,hj,rfl⟩:=List.getElem_of_mem hz
    exact⟨j,hj,fun e'=>by subst e';exact hzk e,rfl⟩
 ·intro hne
  have hno:∀z∈l,z.1≠k:=by
   intro z hz e
   obtain⟨j,hj,rfl⟩:=List.getElem_of_mem hz
   have:=key j hj e
   subst this
   exact hne hj e
  have hdel:del l k=l:=by
   unfold del
   rw[List.filter_eq_self]
   intro a ha
   rw[Bool.not_eq_true',eqs_false];exact hno a ha
  refine⟨srt_ext ?_ (srt_put hs k v) fun z=> ?_,hdel⟩
  ·have hsp:Srt (l.take i++l.drop i):=by rw[List.take_append_drop];exact hs
   unfold Srt at hsp ⊢
   rw[List.pairwise_append]at hsp ⊢
   obtain⟨p1,p2,p3⟩:=hsp
   refine⟨p1,List.pairwise_cons.2 ⟨fun y hy=> ?_,p2⟩,fun x hx y hy=> ?_⟩
   ·obtain⟨j,hj,rfl⟩:=List.getElem_of_mem hy
    rw[List.length_drop]at hj
    rw[List.getElem_drop]
    rcases ge_of (h2 (i+j) (by omega) (by omega))with e | e
    ·exact absurd e (hno _ (List.getElem_mem _))
    ·exact e
   ·have hxk:lt x.1 k=true:=by
     obtain⟨j,hj,rfl⟩:=List.getElem_of_mem hx
     rw[List.length_take]at hj
     rw[List.getElem_take]
     exact h1 j (by omega) (by omega)
    rcases List.mem_cons.1 hy with rfl | hy
    ·exact hxk
    ·exact p3 x hx y hy
  ·have hm:z∈l ↔ z∈l.take i\/z∈l.drop i:=by rw[<-List.mem_append,List.take_append_drop]
   rw[mem_put,List.mem_append,List.mem_cons]
   constructor
   ·rintro(h | h | h)
    ·exact .inr ⟨hm.2 (.inl h),hno z (hm.2 (.inl h))⟩
    ·exact .inl h
    ·exact .inr ⟨hm.2 (.inr h),hno z (hm.2 (.inr h))⟩
   ·rintro(h | ⟨h,_⟩)
    ·exact .inr (.inl h)
    ·rcases hm.1 h with h | h
     ·exact .inl h
     ·exact .inr (.inr h)
end En
namespace Go.Proofs.YtjoiajmbfbjnnaaGreatDoor
open Go.RowKit
theorem hid_calls{P:Program}{f:FuncId}{args:Array Value}{w:World}{R:Ending->World->Prop}(h:Calls P f args w R):Hid (Calls P f args w R):=h
abbrev Ent:=En.Ent
def entE:Enc Ent:=⟨fun x=> [.string x.1, .string x.2],2,fun _=>rfl,by decide,fun x u hu=>by simp at hu;rcases hu with rfl | rfl<;>rfl⟩
theorem eiEnt:EI Tryz.prog 34 (.agg #[.string ⟨#[]⟩, .string ⟨#[]⟩]) 2 32:=EI.mk (by kernel_rfl)
theorem LS.ent{w:World}{B:Nat}{A:Option Addr}{l:List Ent}(h:LS entE w B A l){k:Nat}(hk:k<l.length):∃b off,A=some ⟨b,off,none⟩/\b<B/\w.cell? ⟨b,off+k*2,none⟩=some (.string l[k].1)/\w.cell? ⟨b,off+k*2+1,none⟩=some (.string l[k].2):=by
 obtain⟨b,off,rfl,hb,hc⟩:=h.at_ hk
 exact⟨b,off,rfl,hb,hc 0 (by decide),hc 1 (by decide)⟩
theorem size_empty(s:ByteArray):s.toList.isEmpty=decide (s.size=0):=by
 rw[Lib.toList_data]
 cases h:s.data.toList with
 |nil=>have:s.size=0:=by rw[<-ByteArray.size_data, <-Array.length_toList,h];rfl
       rw[this];rfl
 |cons a l=>
  have:s.size=l.length+1:=by rw[<-ByteArray.size_data, <-Array.length_toList,h];rfl
  rw[this];simp
theorem may_any(k v:ByteArray)(w:World):Calls Tryz.prog 26 #[.string k, .string v] w fun e w'=>e= .returned (.bool (En.may k v))/\w'=w:=by
 have e:En.may k v=(decide (1<=(k.size:Int))&&decide ((k.size:Int)<=16)&&decide ((v.size:Int)<=40)):=by
  unfold En.may;rw[Bool.eq_iff_iff];simp;omega
 rw[e]
 clear e
 by_cases h1:1<=(k.size:Int)
 ·by_cases h2:(k.size:Int)<=16
  ·go_enter Tryz.func26,Tryz.ntmps26
   go_wp2
   go_ret
   exact⟨by rw[decide_eq_true h1,decide_eq_true h2];rfl,rfl⟩
  ·go_enter Tryz.func26,Tryz.ntmps26
   go_wp2
   go_ret
   exact⟨by rw[decide_eq_false (by omega:¬ (k.size:Int)<=16)];rfl,rfl⟩
 ·go_enter Tryz.func26,Tryz.ntmps26
  go_wp2
  go_ret
  exact⟨by rw[decide_eq_false (by omega:¬1<=(k.size:Int))];rfl,rfl⟩
theorem check_yes(k v:ByteArray)(w:World)(hm:En.may k v=true):Calls Tryz.prog 23 #[.string k, .string v] w fun e w'=>e= .returned (.int .i64 0)/\w'=w:=by
 unfold En.may at hm
 simp only[Bool.and_eq_true,decide_eq_true_eq]at hm
 have h1:k.toList.isEmpty=false:=by rw[size_empty];exact decide_eq_false (by omega)
 have h2:decide (16<(k.size:Int))=false:=by simp;omega
 have h3:decide (40<(v.size:Int))=false:=by simp;omega
 clear hm
 go_enter Tryz.func23,Tryz.ntmps23
 go_wp2
 go_ret
 exact⟨rfl,rfl⟩
theorem check_no(k v:ByteArray)(w:World)(hm:En.may k v=false):Calls Tryz.prog 23 #[.string k, .string v] w fun e w'=>e= .returned (.int .i64 110)/\w'=w:=by
 unfold En.may at hm
 simp only[Bool.and_eq_false_iff,decide_eq_false_iff_not]at hm
 by_cases g1:k.size=0
 ·have h1:k.toList.isEmpty=true:=by rw[size_empty];exact decide_eq_true g1
  clear hm g1
  go_enter Tryz.func23,Tryz.ntmps23
  go_wp2
  go_ret
  exact⟨rfl,rfl⟩
 ·have h1:k.toList.isEmpty=false:=by rw[size_empty];exact decide_eq_false g1
  by_cases g2:k.size<=16
  ·have h2:decide (16<(k.size:Int))=false:=by simp;omega
   have h3:decide (40<(v.size:Int))=true:=by simp;omega
   clear hm g1
   go_enter Tryz.func23,Tryz.ntmps23
   go_wp2
   go_ret
   exact⟨rfl,rfl⟩
  ·have h2:decide (16<(k.size:Int))=true:=by simp;omega
   clear hm g1
   go_enter Tryz.func23,Tryz.ntmps23
   go_wp2
   go_ret
   exact⟨rfl,rfl⟩
def chk(k v:ByteArray):Int:=if En.may k v then 0 else 110
theorem check_any(k v:ByteArray)(w:World):Calls Tryz.prog 23 #[.string k, .string v] w fun e w'=>e= .returned (.int .i64 (chk k v))/\w'=w:=by
 unfold chk
 cases hm:En.may k v with
 |true=>exact check_yes k v w hm
 |false=>exact check_no k v w hm
theorem chk_yes{k v:ByteArray}(h:En.may k v=true):chk k v=0:=by unfold chk;rw[h];rfl
theorem chk_no{k v:ByteArray}(h:En.may k v=false):chk k v=110:=by unfold chk;rw[h];rfl
theorem right_any(A:Option Addr)(c:Nat)(l:List Ent)(w:World)(hr:LS entE w w.heap.size A l)(hl:l.length<=1000000):
  Calls Tryz.prog 141 #[.slice A l.length c] w fun e w'=>e= .returned (.bool (En.right l))/\Below w.heap.size w w':=by
 obtain⟨R,hR⟩:∃R,R=En.right l:=⟨_,rfl⟩
 rw[<-hR]
 have HR:=Lib.hid hR
 clear hR
 go_enter Tryz.func141,Tryz.ntmps141
 go_wp2
 go_loopw [3,4,7] (fun _ _ i wr=>∃k:Nat,k<=l.length/\i= .int .i64 k/\Hid (En.right l=En.rightFrom (En.prev l k) (l.drop k))/\Below w.heap.size w wr) (fun _ _ i _=>l.length-(intOf i).toNat)
 case atStart=>exact⟨0,by omega,rfl,Lib.hid rfl,Below.refl _ _⟩
 case round=>
  obtain⟨k,hk,rfl,HK,hbe⟩:=hrel
  by_cases hlt:k<l.length
  ·obtain⟨b1,o1,rfl,hb1,g0,g1⟩:=(hr.below hbe).ent hlt
   have hat:=Lib.hid (En.right_at l k hlt)
   generalize hx:l[k]=x at*
   obtain⟨x1,x2⟩:=x
   have hb1':b1<wr.heap.size:=by have:=hbe.size;omega
   cases hm:En.may x1 x2 with
   |false=>
    have hc:=fun W=>hid_calls (check_any x1 x2 W)
    rw[chk_no hm]at hc
    have HM:=Lib.hid hm
    clear hm
    go_wp2_with fail
    go_quiet ((go_at_call 23;exact Calls.quiet_of_same (hc _).out))
    go_wp2
    go_ret
    exact⟨by rw[HR.out,HK.out,hat.out,HM.out];rfl,below_drewN (hbe.alloc hbe.size _) _⟩
   |true=>
    have hc:=fun W=>hid_calls (check_any x1 x2 W)
    rw[chk_yes hm]at hc
    have HM:=Lib.hid hm
    clear hm
    by_cases h0:k=0
    ·subst h0
     simp only[Nat.zero_mul,Nat.add_zero]at g0 g1
     go_wp2_with fail
     go_quiet ((go_at_call 23;exact Calls.quiet_of_same (hc _).out))
     go_wp2
     go_roundw
     case rel=>
      refine⟨1,by omega,rfl, ?_,below_drewN (hbe.alloc hbe.size _) _⟩
      refine Lib.hid ?_
      rw[HK.out,hat.out,HM.out];rfl
     case measure=>simp[intOf];omega
    ·obtain⟨q,rfl⟩:∃q,k=q+1:=⟨k-1,by omega⟩
     obtain⟨b2,o2,e2,hb2,f0,f1⟩:=(hr.below hbe).ent (show q<l.length by omega)
     injection e2 with e2;injection e2 with e2 e3;subst e2 e3
     have hp:=Lib.hid (En.prev_succ l (q+1) hlt (by omega))
     generalize hz:l[q]=z at*
     cases hlz:En.lt z.1 x1 with
     |true=>
      have hbl:Op.bytesLess z.1.toList x1.toList=true:=hlz
      have HL:=Lib.hid hlz
      clear hlz f1 h0
      go_wp2_with fail
      go_quiet ((go_at_call 23;exact Calls.quiet_of_same (hc _).out))
      go_wp2
      go_roundw
      case rel=>
       refine⟨q+1+1,by omega,by go_num, ?_,below_drewN (hbe.alloc hbe.size _) _⟩
       refine Lib.hid ?_
       rw[HK.out,hat.out,hp.out,HM.out]
       simp only[Nat.add_sub_cancel,hz]
       unfold En.ahead
       simp only
       rw[HL.out];simp
      case measure=>simp[intOf];omega
     |false=>
      have hbl:Op.bytesLess z.1.toList x1.toList=false:=hlz
      have HL:=Lib.hid hlz
      clear hlz f1 h0
      go_wp2_with fail
      go_quiet ((go_at_call 23;exact Calls.quiet_of_same (hc _).out))
      go_wp2
      go_ret
      refine⟨?_,below_drewN (hbe.alloc hbe.size _) _⟩
      rw[HR.out,HK.out,hat.out,hp.out]
      simp only[Nat.add_sub_cancel,hz]
      unfold En.ahead
      simp only
      rw[HL.out];simp
  ·obtain rfl:k=l.length:=by omega
   go_wp2
   go_ret
   refine⟨?_,hbe⟩
   rw[HR.out,HK.out,List.drop_of_length_le (Nat.le_refl _)];rfl
end Go.Proofs.YtjoiajmbfbjnnaaGreatDoor
namespace En
structure Dl where
 key:Str
 old:Str
 new:Str
 was:Bool
 is:Bool
def nil:Str:=⟨#[]⟩
def dOld(x:Ent):Dl:=⟨x.1,x.2,nil,true,false⟩
def dNew(x:Ent):Dl:=⟨x.1,nil,x.2,false,true⟩
def dBoth(x y:Ent):List Dl:=if eqs x.2 y.2 then []else [⟨x.1,x.2,y.2,true,true⟩]
def mergeN:Nat->List Ent->List Ent->List Dl
 |_, [], []=> []
 |0,_,_=> []
 |n+1,x::a, []=>dOld x::mergeN n a []
 |n+1, [],y::b=>dNew y::mergeN n [] b
 |n+1,x::a,y::b=>if lt x.1 y.1 then dOld x::mergeN n a (y::b)else if lt y.1 x.1 then dNew y::mergeN n (x::a) b else dBoth x y++mergeN n a b
def mergeD(a b:List Ent):List Dl:=mergeN (a.length+b.length) a b
def keys(l:List Ent):List Str:=l.map (·.1)
def ap1(l:List Ent)(d:Dl):List Ent:=if right l then(if d.is then(if may d.key d.new then put l d.key d.new else l)else del l d.key)else l
def ap(l:List Ent)(d:List Dl):List Ent:=d.foldl ap1 l
theorem ins_len(z:Ent)(c:List Ent):(ins z c).length=c.length+1:=by
 induction c with
 |nil=>rfl
 |cons u c ihc=>unfold ins;split<;>simp[ihc]
theorem put_len(l:List Ent)(k v:Str):(put l k v).length<=l.length+1:=by
 unfold put;rw[ins_len]
 have:=List.length_filter_le (fun y:Ent=> !eqs y.1 k) l
 unfold del;omega
theorem del_len(l:List Ent)(k:Str):(del l k).length<=l.length:=List.length_filter_le _ _
end En
namespace Go.Proofs.YtjoiajmbfbjnnaaGreatDoor
open Go.RowKit
abbrev Dl:=En.Dl
end Go.Proofs.YtjoiajmbfbjnnaaGreatDoor
namespace Cp
def be:Nat->Nat->List UInt8
 |0,_=> []
 |k+1,n=>be k (n / 256)++ [UInt8.ofNat (n % 256)]
theorem be_length(k n:Nat):(be k n).length=k:=by
 induction k generalizing n with
 |zero=>rfl
 |succ k ih=>simp[be,ih]
def num(l:List UInt8):Nat:=l.foldl (fun n c=>n*256+c.toNat) 0
theorem num_from(l:List UInt8)(n:Nat):l.foldl (fun n c=>n*256+c.toNat) n=n*256 ^ l.length+num l:=by
 induction l generalizing n with
 |nil=>simp[num]
 |cons c l ih=>
  unfold num
  rw[List.foldl_cons,List.foldl_cons,ih,ih (0*256+c.toNat),List.length_cons,Nat.pow_succ]
  rw[Nat.add_mul,Nat.zero_mul,Nat.zero_add,Nat.add_assoc,Nat.mul_assoc,Nat.mul_comm 256]
theorem num_append(a b:List UInt8):num (a++b)=num a*256 ^ b.length+num b:=by
 show(a++b).foldl _ 0=_
 rw[List.foldl_append,num_from];rfl
theorem num_snoc(a:List UInt8)(c:UInt8):num (a++ [c])=num a*256+c.toNat:=by
 rw[num_append];simp[num]
theorem num_lt(l:List UInt8):num l<256 ^ l.length:=by
 have:∀ (k:Nat) (l:List UInt8),l.length=k->num l<256 ^ k:=by
  intro k
  induction k with
  |zero=>intro l h;have:l= []:=List.eq_nil_of_length_eq_zero h;subst this;simp[num]
  |succ k ih=>
   intro l h
   have hne:l≠ []:=by rintro rfl;simp at h
   rw[<-List.dropLast_concat_getLast hne,num_snoc]
   have h1:=ih l.dropLast (by simp[h])
   have h2:=(l.getLast hne).toNat_lt
   rw[Nat.pow_succ]
   omega
 exact this _ l rfl
theorem num_be(k n:Nat):num (be k n)=n % 256 ^ k:=by
 induction k generalizing n with
 |zero=>simp[be,num,Nat.mod_one]
 |succ k ih=>
  rw[be,num_snoc,ih]
  have:(UInt8.ofNat (n % 256)).toNat=n % 256:=by simp
  rw[this,Nat.pow_succ,Nat.mul_comm (256 ^ k) 256,Nat.mod_mul]
  omega
theorem num_be_lt{k n:Nat}(h:n<256 ^ k):num (be k n)=n:=by rw[num_be,Nat.mod_eq_of_lt h]
theorem be_getElem?(k n j:Nat)(h:j<k):(be k n)[j]? =some (UInt8.ofNat (n / 256 ^ (k-1-j) % 256)):=by
 induction k generalizing n j with
 |zero=>omega
 |succ k ih=>
  rw[be]
  by_cases hj:j<k
  ·rw[List.getElem?_append_left (by rw[be_length];exact hj),ih _ _ hj]
   have e:k+1-1-j=(k-1-j)+1:=by omega
   rw[e,Nat.pow_succ,Nat.mul_comm (256 ^ _),Nat.div_div_eq_div_mul]
  ·obtain rfl:j=k:=by omega
   rw[List.getElem?_append_right (by rw[be_length];omega),be_length]
   simp
theorem be_take_succ(k n j:Nat)(h:j<k):(be k n).take (j+1)=(be k n).take j++ [UInt8.ofNat (n / 256 ^ (k-1-j) % 256)]:=by
 rw[List.take_add_one,be_getElem? k n j h];rfl
def fits(k:Nat)(n:Int):Bool:=decide (0<=n)&&decide (n<(256 ^ k:Nat))
def putS(k:Nat)(n:Int):List UInt8:=if fits k n then be k n.toNat else []
structure Rd where
 rest:List UInt8
 err:Int
def Rd.fail(r:Rd)(e:Int):Rd:=if r.err=0 then { r with err:=e } else r
def Rd.bytes(r:Rd)(n:Int):List UInt8 × Rd:=
 let r1:=if n<0 then r.fail 1 else if(r.rest.length:Int)<n then r.fail 10 else r
 if r1.err=0 then(r1.rest.take n.toNat, { r1 with rest:=r1.rest.drop n.toNat })else([],r1)
def Rd.int(r:Rd)(k:Nat):Nat × Rd:=(num (r.bytes k).1,(r.bytes k).2)
abbrev Run:=Int × Int
def okRun(r:Run):Bool:=fits 4 r.1&&fits 4 r.2&&decide (r.1<=r.2)
def runBytes(r:Run):List UInt8:=be 4 r.1.toNat++be 4 r.2.toNat
def body(next:Int)(l:List Run):Option (List UInt8):=
 if fits 4 next&&decide (l.length<=29)&&l.all okRun then some (be 4 next.toNat++be 2 l.length++l.flatMap runBytes)else none
theorem bytes_ok{r:Rd}{k:Nat}(he:r.err=0)(hk:k<=r.rest.length):r.bytes k=(r.rest.take k,⟨r.rest.drop k,0⟩):=by
 have h1:¬ ((k:Int)<0):=by omega
 have h2:¬ ((r.rest.length:Int)<(k:Int)):=by omega
 simp only[Rd.bytes,if_neg h1,if_neg h2,he,if_true,Int.toNat_natCast]
theorem int_ok{r:Rd}{k:Nat}(he:r.err=0)(hk:k<=r.rest.length):r.int k=(num (r.rest.take k),⟨r.rest.drop k,0⟩):=by
 unfold Rd.int;rw[bytes_ok he hk]
end Cp
namespace Nd
open En
structure Node where
 leaf:Bool
 ents:List Ent
 kids:List Int
 keys:List Str
def mkLeaf(l:List Ent):Node:=⟨true,l, [], []⟩
def mkInner(kids:List Int)(keys:List Str):Node:=⟨false, [],kids,keys⟩
def keysFrom:Option Str->List Str->Bool
 |_, []=>true
 |p,k::l=>may k ⟨#[]⟩&&ahead p k&&keysFrom (some k) l
def okKid(i:Int):Bool:=decide (2<=i)&&decide (i<=4294967295)
def right(n:Node):Bool:=
 if n.leaf then En.right n.ents&&decide (n.kids.length+n.keys.length=0)
 else decide (n.ents.length=0)&&decide (n.keys.length+1=n.kids.length)&&n.kids.all okKid&&keysFrom none n.keys
def esz(x:Ent):Nat:=2+x.1.size+x.2.size
def esize(l:List Ent):Nat:=(l.map esz).sum
def ksz(k:Str):Nat:=5+k.size
def ksize(l:List Str):Nat:=(l.map ksz).sum
def size(n:Node):Nat:=if n.leaf then esize n.ents else 4+ksize n.keys
def fits(n:Node):Bool:=right n&&decide (size n<=240)
def kind(n:Node):Nat:=if n.leaf then 1 else 2
theorem right_leaf{l:List Ent}{kids:List Int}{keys:List Str} :right ⟨true,l,kids,keys⟩=true ↔ En.right l=true/\kids= []/\keys= []:=by
 unfold right
 simp only[if_true,Bool.and_eq_true,decide_eq_true_eq]
 constructor
 ·rintro⟨h1,h2⟩
  exact⟨h1,List.eq_nil_of_length_eq_zero (by omega),List.eq_nil_of_length_eq_zero (by omega)⟩
 ·rintro⟨h1,rfl,rfl⟩;exact⟨h1,rfl⟩
theorem right_inner{l:List Ent}{kids:List Int}{keys:List Str} :right ⟨false,l,kids,keys⟩=true ↔ l= []/\keys.length+1=kids.length/\(∀i∈kids,2<=i/\i<=4294967295)/\keysFrom none keys=true:=by
 unfold right
 simp only[Bool.false_eq_true,if_false,Bool.and_eq_true,decide_eq_true_eq,List.all_eq_true]
 constructor
 ·rintro⟨⟨⟨h1,h2⟩,h3⟩,h4⟩
  exact⟨List.eq_nil_of_length_eq_zero h1,h2,fun i hi=>by have:=h3 i hi;unfold okKid at this;simpa using this,h4⟩
 ·rintro⟨rfl,h2,h3,h4⟩
  exact⟨⟨⟨rfl,h2⟩,fun i hi=>by have:=h3 i hi;unfold okKid;simpa using this⟩,h4⟩
def KSrt(l:List Str):Prop:=l.Pairwise fun x y=>lt x y=true
theorem keysFrom_iff:∀ (l:List Str) (p:Option Str),keysFrom p l=true ↔ (∀x∈l,may x ⟨#[]⟩=true)/\(∀y,p=some y->∀x∈l,lt y x=true)/\KSrt l
 | [],p=>by simp[keysFrom,KSrt]
 |x::l,p=>by
  rw[keysFrom,Bool.and_eq_true,Bool.and_eq_true,keysFrom_iff l (some x)]
  unfold KSrt
  rw[List.pairwise_cons]
  constructor
  ·rintro⟨⟨h1,h2⟩,h3,h4,h5⟩
   refine⟨fun y hy=> ?_,fun y hy z hz=> ?_,fun y hy=>h4 _ rfl y hy,h5⟩
   ·rcases List.mem_cons.1 hy with rfl | hy
    ·exact h1
    ·exact h3 y hy
   ·subst hy
    unfold ahead at h2;simp only at h2
    rcases List.mem_cons.1 hz with rfl | hz
    ·exact h2
    ·exact lt_trans h2 (h4 _ rfl z hz)
  ·rintro⟨h1,h2,h3,h4⟩
   refine⟨⟨h1 x List.mem_cons_self, ?_⟩,fun y hy=>h1 y (List.mem_cons_of_mem _ hy),fun y hy z hz=> ?_,h4⟩
   ·cases p with
    |none=>rfl
    |some y=>exact h2 y rfl x List.mem_cons_self
   ·injection hy with hy;subst hy;exact h3 z hz
theorem keys_iff(l:List Str):keysFrom none l=true ↔ (∀x∈l,may x ⟨#[]⟩=true)/\KSrt l:=by
 rw[keysFrom_iff]
 exact⟨fun h=>⟨h.1,h.2.2⟩,fun h=>⟨h.1,(fun y hy=>by cases hy),h.2⟩⟩
def kprev(l:List Str)(k:Nat):Option Str:=if k=0 then none else l[k-1]?
theorem keys_at(l:List Str)(k:Nat)(hk:k<l.length):keysFrom (kprev l k) (l.drop k)=(may l[k] ⟨#[]⟩&&ahead (kprev l k) l[k]&&keysFrom (kprev l (k+1)) (l.drop (k+1))):=by
 rw[List.drop_eq_getElem_cons hk,keysFrom]
 have e:kprev l (k+1)=some l[k]:=by unfold kprev;rw[if_neg (by omega)];simp[hk]
 rw[e]
theorem kprev_succ(l:List Str)(k:Nat)(hk:k<l.length)(h0:0<k):kprev l k=some (l[k-1]'(by omega)):=by
 unfold kprev;rw[if_neg (by omega)];simp[show k-1<l.length by omega]
def text(s:Str):List UInt8:=UInt8.ofNat s.size::s.data.toList
def enc1(x:Ent):List UInt8:=text x.1++text x.2
def eenc(l:List Ent):List UInt8:=l.flatMap enc1
def kenc1(x:Str × Int):List UInt8:=text x.1++Cp.be 4 x.2.toNat
def kenc(keys:List Str)(kids:List Int):List UInt8:=(keys.zip kids).flatMap kenc1
def enc(n:Node):List UInt8:=if n.leaf then eenc n.ents else Cp.be 4 (n.kids.headD 0).toNat++kenc n.keys n.kids.tail
theorem text_length(s:Str):(text s).length=1+s.size:=by
 unfold text;rw[List.length_cons,Array.length_toList,ByteArray.size_data];omega
theorem enc1_length(x:Ent):(enc1 x).length=esz x:=by
 unfold enc1 esz;rw[List.length_append,text_length,text_length];omega
theorem eenc_length(l:List Ent):(eenc l).length=esize l:=by
 induction l with
 |nil=>rfl
 |cons x l ih=>unfold eenc esize at *;rw[List.flatMap_cons,List.length_append,ih,enc1_length,List.map_cons,List.sum_cons]
theorem kenc_length:∀ (keys:List Str) (kids:List Int),keys.length=kids.length->(kenc keys kids).length=ksize keys
 | [],_,_=>rfl
 |k::ks,i::is,h=>by
  have ih:=kenc_length ks is (by simpa using h)
  unfold kenc ksize kenc1 at*
  rw[List.zip_cons_cons,List.flatMap_cons,List.length_append,ih,List.map_cons,List.sum_cons,List.length_append,text_length,Cp.be_length]
  simp only[show ksz k=5+k.size from rfl]
  omega
 |_::_, [],h=>by simp at h
theorem enc_length{n:Node}(h:right n=true):(enc n).length=size n:=by
 obtain⟨leaf,ents,kids,keys⟩:=n
 cases leaf with
 |true=>unfold enc size;simp[eenc_length]
 |false=>
  obtain⟨_,h2,_,_⟩:=right_inner.1 h
  unfold enc size
  simp only[Bool.false_eq_true,if_false,List.length_append,Cp.be_length]
  rw[kenc_length _ _ (by rw[List.length_tail];omega)]
theorem esize_append(a b:List Ent):esize (a++b)=esize a+esize b:=by unfold esize;rw[List.map_append,List.sum_append]
theorem ksize_append(a b:List Str):ksize (a++b)=ksize a+ksize b:=by unfold ksize;rw[List.map_append,List.sum_append]
theorem esize_cons(x:Ent)(l:List Ent):esize (x::l)=esz x+esize l:=by unfold esize;rw[List.map_cons,List.sum_cons]
theorem ksize_cons(x:Str)(l:List Str):ksize (x::l)=ksz x+ksize l:=by unfold ksize;rw[List.map_cons,List.sum_cons]
theorem esize_take_succ(l:List Ent)(k:Nat)(hk:k<l.length):esize (l.take (k+1))=esize (l.take k)+esz l[k]:=by
 rw[List.take_succ_eq_append_getElem hk,esize_append];simp[esize]
theorem ksize_take_succ(l:List Str)(k:Nat)(hk:k<l.length):ksize (l.take (k+1))=ksize (l.take k)+ksz l[k]:=by
 rw[List.take_succ_eq_append_getElem hk,ksize_append];simp[ksize]
theorem esize_len(l:List Ent):2*l.length<=esize l:=by
 induction l with
 |nil=>simp[esize]
 |cons x l ih=>rw[esize_cons,List.length_cons];unfold esz;omega
theorem ksize_len(l:List Str):5*l.length<=ksize l:=by
 induction l with
 |nil=>simp[ksize]
 |cons x l ih=>rw[ksize_cons,List.length_cons];unfold ksz;omega
def child:List Str->Str->Nat
 | [],_=>0
 |k::l,key=>if lt key k then 0 else child l key+1
theorem child_le(l:List Str)(key:Str):child l key<=l.length:=by
 induction l with
 |nil=>simp[child]
 |cons k l ih=>unfold child;split;simp;simp;exact ih
theorem child_iff{l:List Str}(hs:KSrt l){key:Str}{i:Nat}(hi:i<=l.length)(h1:∀j (hj:j<l.length),j<i->lt key l[j]=false)(h2:∀j (hj:j<l.length),i<=j->lt key l[j]=true):child l key=i:=by
 induction l generalizing i with
 |nil=>simp at hi;subst hi;rfl
 |cons k l ih=>
  unfold child
  cases i with
  |zero=>
   have:=h2 0 (by simp) (Nat.le_refl _)
   simp only[List.getElem_cons_zero]at this
   rw[if_pos this]
  |succ i=>
   have:=h1 0 (by simp) (by omega)
   simp only[List.getElem_cons_zero]at this
   rw[if_neg (by rw[this];simp)]
   have hs2:KSrt l:=(List.pairwise_cons.1 hs).2
   rw[ih hs2 (i:=i) (by simpa using hi) (fun j hj hji=>by have:=h1 (j+1) (by simpa using hj) (by omega);simpa using this) (fun j hj hji=>by have:=h2 (j+1) (by simpa using hj) (by omega);simpa using this)]
def halfFrom(all len:Nat):Nat->Nat->List Ent->Nat
 |_,_, []=>0
 |i,n,x::r=>if 0<i/\(all<=2*n\/i+1=len)then i else halfFrom all len (i+1) (n+esz x) r
def half(l:List Ent):Nat:=halfFrom (esize l) l.length 0 0 l
def split(n:Node):Option (Node × Str × Node):=
 if right n=false\/(n.ents.length<2/\n.kids.length<2)then none
 else if n.leaf then match n.ents[half n.ents]? with
  |none=>none
  |some x=>some (mkLeaf (n.ents.take (half n.ents)),x.1,mkLeaf (n.ents.drop (half n.ents)))
 else match n.keys[n.kids.length / 2-1]? with
  |none=>none
  |some k=>some (mkInner (n.kids.take (n.kids.length / 2)) (n.keys.take (n.kids.length / 2-1)),k,mkInner (n.kids.drop (n.kids.length / 2)) (n.keys.drop (n.kids.length / 2)))
def join(a:Node)(key:Str)(b:Node):Node:=
 if a.leaf != b.leaf then a
 else if a.leaf then⟨true,a.ents++b.ents,a.kids++b.kids,a.keys++b.keys⟩
 else⟨false,a.ents++b.ents,a.kids++b.kids,a.keys++ [key]++b.keys⟩
def swap(n:Node)(fr to_:Nat)(kids:List Int)(keys:List Str):Node:=
 if n.leaf=true\/n.kids.length<to_\/to_<=fr\/keys.length≠kids.length-1 then n
 else mkInner (n.kids.take fr++kids++n.kids.drop to_)
  (n.keys.take (if kids.length=0/\0<fr then fr-1 else fr)++keys++n.keys.drop (if kids.length=0/\fr=0 then min to_ n.keys.length else to_-1))
end Nd
namespace Rp
abbrev Run:=Int × Int
def Most:Int:=4294967295
def clip(r:Run):Run:=(max r.1 0,min r.2 Most)
def Mem(l:List Run)(n:Int):Prop:=∃r∈l,r.1<=n/\n<=r.2
def Canon:Int->List Run->Prop
 |_, []=>True
 |lo,r::l=>lo<=r.1/\r.1<=r.2/\r.2<=Most/\Canon (r.2+2) l
theorem mem_nil(n:Int):¬Mem [] n:=by rintro⟨r,h,_⟩;cases h
theorem mem_cons{r:Run}{l:List Run}{n:Int} :Mem (r::l) n ↔ (r.1<=n/\n<=r.2)\/Mem l n:=by
 unfold Mem
 constructor
 ·rintro⟨s,hs,h⟩
  rcases List.mem_cons.1 hs with rfl | hs
  ·exact .inl h
  ·exact .inr ⟨s,hs,h⟩
 ·rintro(h | ⟨s,hs,h⟩)
  ·exact⟨r,List.mem_cons_self,h⟩
  ·exact⟨s,List.mem_cons_of_mem _ hs,h⟩
theorem mem_append{l m:List Run}{n:Int} :Mem (l++m) n ↔ Mem l n\/Mem m n:=by
 induction l with
 |nil=>simp[mem_nil]
 |cons r l ih=>rw[List.cons_append,mem_cons,mem_cons,ih,or_assoc]
theorem Canon.ge{lo:Int}{l:List Run}(h:Canon lo l){n:Int}(hm:Mem l n):lo<=n:=by
 induction l generalizing lo with
 |nil=>exact absurd hm (mem_nil n)
 |cons r l ih=>
  rcases mem_cons.1 hm with h1 | h1
  ·have:=h.1;omega
  ·have:=ih h.2.2.2 h1;have:=h.1;have:=h.2.1;omega
theorem Canon.le{lo:Int}{l:List Run}(h:Canon lo l){n:Int}(hm:Mem l n):n<=Most:=by
 induction l generalizing lo with
 |nil=>exact absurd hm (mem_nil n)
 |cons r l ih=>
  rcases mem_cons.1 hm with h1 | h1
  ·have:=h.2.2.1;omega
  ·exact ih h.2.2.2 h1
theorem canon_unique:∀ (a b:List Run) (lo lo':Int),Canon lo a->Canon lo' b->(∀n,Mem a n ↔ Mem b n)->a=b
 | [], [],_,_,_,_,_=>rfl
 | [],s::b,_,_,_,hb,h=>absurd ((h s.1).2 (mem_cons.2 (.inl ⟨Int.le_refl _,hb.2.1⟩))) (mem_nil _)
 |r::a, [],_,_,ha,_,h=>absurd ((h r.1).1 (mem_cons.2 (.inl ⟨Int.le_refl _,ha.2.1⟩))) (mem_nil _)
 |(f,t)::a,(f',t')::b,lo,lo',ha,hb,h=>by
  obtain⟨_,h1,_,ha'⟩:=ha
  obtain⟨_,h2,_,hb'⟩:=hb
  simp only at h1 h2 ha' hb'
  have e1:f=f':=by
   have m1:=(h f).1 (mem_cons.2 (.inl ⟨Int.le_refl _,h1⟩))
   have m2:=(h f').2 (mem_cons.2 (.inl ⟨Int.le_refl _,h2⟩))
   rcases mem_cons.1 m1 with m1 | m1<;>rcases mem_cons.1 m2 with m2 | m2
   ·simp only at m1 m2;omega
   ·have:=ha'.ge m2;simp only at m1;omega
   ·have:=hb'.ge m1;simp only at m2;omega
   ·have:=ha'.ge m2;have:=hb'.ge m1;omega
  subst e1
  have e2:t=t':=by
   rcases Int.lt_trichotomy t t' with hlt | heq | hlt
   ·have m:=(h (t+1)).2 (mem_cons.2 (.inl ⟨by simp only;omega,by simp only;omega⟩))
    rcases mem_cons.1 m with m | m
    ·simp only at m;omega
    ·have:=ha'.ge m;omega
   ·exact heq
   ·have m:=(h (t'+1)).1 (mem_cons.2 (.inl ⟨by simp only;omega,by simp only;omega⟩))
    rcases mem_cons.1 m with m | m
    ·simp only at m;omega
    ·have:=hb'.ge m;omega
  subst e2
  rw[canon_unique a b _ _ ha' hb' fun n=> ?_]
  constructor
  ·intro m
   have hn:=ha'.ge m
   rcases mem_cons.1 ((h n).1 (mem_cons.2 (.inr m)))with m' | m'
   ·simp only at m';omega
   ·exact m'
  ·intro m
   have hn:=hb'.ge m
   rcases mem_cons.1 ((h n).2 (mem_cons.2 (.inr m)))with m' | m'
   ·simp only at m';omega
   ·exact m'
def kept(l:List Run):List Run:=(l.map clip).filter fun r=>decide (r.1<=r.2)
def push(out:List Run)(r:Run):List Run:=
 match out.getLast? with
 |none=> [r]
 |some y=>if r.1<=y.2+1 then out.dropLast++ [(y.1,max y.2 r.2)]else out++ [r]
def merged(l:List Run):List Run:=l.foldl push []
theorem canon_append{a b:List Run}{lo:Int} :Canon lo (a++b) ↔ Canon lo a/\Canon (match a.getLast? with | none=>lo | some y=>y.2+2) b:=by
 induction a generalizing lo with
 |nil=>simp[Canon]
 |cons r a ih=>
  rw[List.cons_append]
  show(lo<=r.1/\r.1<=r.2/\r.2<=Most/\Canon (r.2+2) (a++b)) ↔ (lo<=r.1/\r.1<=r.2/\r.2<=Most/\Canon (r.2+2) a)/\_
  rw[ih]
  have e:((r::a).getLast?)=some (a.getLast?.getD r):=by rw[List.getLast?_cons]
  rw[e]
  rcases h:a.getLast? with _ | y
  ·simp[and_assoc]
  ·simp[and_assoc]
theorem snoc_of_getLast?{l:List Run}{y:Run}(h:l.getLast? =some y):l=l.dropLast++ [y]:=by
 have hne:l≠ []:=by rintro rfl;simp at h
 have:=List.dropLast_concat_getLast hne
 rw[List.getLast?_eq_some_getLast hne]at h
 injection h with h
 rw[h]at this
 exact this.symm
def LastLe(out:List Run)(n:Int):Prop:=∀y,out.getLast? =some y->y.1<=n
theorem push_up{out:List Run}{r:Run}(h:Canon 0 out)(hl:LastLe out r.1)(h0:0<=r.1)(h1:r.1<=r.2)(h2:r.2<=Most):
  Canon 0 (push out r)/\LastLe (push out r) r.1/\∀n,Mem (push out r) n ↔ Mem out n\/(r.1<=n/\n<=r.2):=by
 unfold push
 rcases hg:out.getLast? with _ | y
 ·have hn:out= []:=by simpa using hg
  subst hn
  refine⟨⟨h0,h1,h2,trivial⟩, ?_,fun n=> ?_⟩
  ·intro y hy;simp at hy;subst hy;exact Int.le_refl _
  ·simp[mem_cons,mem_nil]
 ·have hs:=snoc_of_getLast? hg
  have hly:=hl y hg
  have hc:Canon 0 (out.dropLast++ [y]):=by rw[<-hs];exact h
  obtain⟨hd,hy1,hy2,hy3,_⟩:=canon_append.1 hc
  simp only
  split
  ·rename_i hle
   refine⟨canon_append.2 ⟨hd,hy1, ?_, ?_,trivial⟩, ?_,fun n=> ?_⟩
   ·simp only;omega
   ·simp only;omega
   ·intro z hz;simp at hz;subst hz;exact hly
   ·have hm:Mem out n ↔ Mem (out.dropLast++ [y]) n:=by rw[<-hs]
    rw[hm,mem_append,mem_append,mem_cons,mem_cons]
    have:=mem_nil n
    simp only[this,or_false]
    constructor
    ·rintro(h | h)
     ·exact .inl (.inl h)
     ·by_cases hh:n<=y.2
      ·exact .inl (.inr ⟨h.1,hh⟩)
      ·exact .inr ⟨by omega,by omega⟩
    ·rintro((h | h) | h)
     ·exact .inl h
     ·exact .inr ⟨h.1,by omega⟩
     ·exact .inr ⟨by omega,by omega⟩
  ·rename_i hle
   refine⟨canon_append.2 ⟨h, ?_⟩, ?_,fun n=> ?_⟩
   ·rw[hg];exact⟨by simp only;omega,h1,h2,trivial⟩
   ·intro z hz;simp at hz;subst hz;exact Int.le_refl _
   ·rw[mem_append,mem_cons];have:=mem_nil n;simp only[this,or_false]
theorem merged_from(l:List Run):∀ (out:List Run),Canon 0 out->(∀r∈l,LastLe out r.1)->l.Pairwise (fun a b=>a.1<=b.1)->
  (∀r∈l,0<=r.1/\r.1<=r.2/\r.2<=Most)->Canon 0 (l.foldl push out)/\∀n,Mem (l.foldl push out) n ↔ Mem out n\/Mem l n:=by
 induction l with
 |nil=>intro out h _ _ _;exact⟨h,fun n=>by simp[mem_nil]⟩
 |cons r l ih=>
  intro out h hl hp hr
  obtain⟨hp1,hp2⟩:=List.pairwise_cons.1 hp
  obtain⟨h0,h1,h2⟩:=hr r List.mem_cons_self
  obtain⟨c,ll,m⟩:=push_up h (hl r List.mem_cons_self) h0 h1 h2
  obtain⟨c2,m2⟩:=ih (push out r) c (fun s hs y hy=>Int.le_trans (ll y hy) (hp1 s hs)) hp2 (fun s hs=>hr s (List.mem_cons_of_mem _ hs))
  refine⟨c2,fun n=> ?_⟩
  rw[List.foldl_cons,m2,m,mem_cons,or_assoc]
theorem kept_ok{l:List Run} :∀r∈kept l,0<=r.1/\r.1<=r.2/\r.2<=Most:=by
 intro r hr
 unfold kept at hr
 obtain⟨h1,h2⟩:=List.mem_filter.1 hr
 obtain⟨s,_,rfl⟩:=List.mem_map.1 h1
 have h2:(clip s).1<=(clip s).2:=of_decide_eq_true h2
 refine⟨?_,h2, ?_⟩<;>simp only[clip]<;>omega
theorem mem_kept{l:List Run}{n:Int} :Mem (kept l) n ↔ Mem l n/\0<=n/\n<=Most:=by
 constructor
 ·rintro⟨r,hr,h⟩
  have:=kept_ok r hr
  unfold kept at hr
  obtain⟨h1,h2⟩:=List.mem_filter.1 hr
  obtain⟨s,hs,rfl⟩:=List.mem_map.1 h1
  simp only[clip]at h this
  exact⟨⟨s,hs,by omega,by omega⟩,by omega,by omega⟩
 ·rintro⟨⟨r,hr,h⟩,h0,hm⟩
  refine⟨clip r,List.mem_filter.2 ⟨List.mem_map.2 ⟨r,hr,rfl⟩, ?_⟩, ?_⟩
  ·simp only[clip];exact decide_eq_true (by omega)
  ·simp only[clip];omega
theorem mem_perm{a b:List Run}(h:a.Perm b)(n:Int):Mem a n ↔ Mem b n:=by
 unfold Mem
 constructor
 ·rintro⟨r,hr,x⟩;exact⟨r,h.mem_iff.1 hr,x⟩
 ·rintro⟨r,hr,x⟩;exact⟨r,h.mem_iff.2 hr,x⟩
theorem sorted_merged{l s:List Run}(hp:s.Perm (kept l))(hs:s.Pairwise (fun a b=>a.1<=b.1)):
  Canon 0 (merged s)/\∀n,Mem (merged s) n ↔ Mem l n/\0<=n/\n<=Most:=by
 obtain⟨c,m⟩:=merged_from s [] trivial (fun r _ y hy=>by simp at hy) hs (fun r hr=>kept_ok r (hp.mem_iff.1 hr))
 refine⟨c,fun n=> ?_⟩
 have:=m n
 unfold merged
 rw[this,mem_perm hp,mem_kept]
 simp[mem_nil]
def putStep(st:List Run × Run × Bool)(y:Run):List Run × Run × Bool:=
 if y.2+1<st.2.1.1 then(st.1++ [y],st.2.1,st.2.2)
 else if st.2.1.2+1<y.1 then(if st.2.2 then(st.1++ [y],st.2.1,true)else(st.1++ [st.2.1]++ [y],st.2.1,true))
 else(st.1,(min st.2.1.1 y.1,max st.2.1.2 y.2),st.2.2)
def putEnd(st:List Run × Run × Bool):List Run:=if st.2.2 then st.1 else st.1++ [st.2.1]
def put(l:List Run)(x:Run):List Run:=
 if(clip x).1<=(clip x).2 then putEnd (l.foldl putStep ([],clip x,false))else l
def norm(l:List Run):List Run:=l.foldl put []
theorem put_done(l:List Run):∀ (out:List Run) (r:Run) (lo:Int),Canon lo l->r.2+1<lo->
  l.foldl putStep (out,r,true)=(out++l,r,true)\/l.foldl putStep (out,r,true)=(out++l,r,true):=by
 induction l with
 |nil=>intro out r lo _ _;simp
 |cons y l ih=>
  intro out r lo h hr
  have e:putStep (out,r,true) y=(out++ [y],r,true):=by
   unfold putStep
   have:=h.1
   by_cases h1:y.2+1<r.1
   ·simp[h1]
   ·simp only[h1,if_false];rw[if_pos (by omega)];simp
  rw[List.foldl_cons,e]
  have:=ih (out++ [y]) r (y.2+2) h.2.2.2 (by have:=h.1;have:=h.2.1;omega)
  simpa using this
theorem put_from(l:List Run):∀ (out:List Run) (r:Run) (lo:Int),Canon lo l->Canon 0 out->(∀y,out.getLast? =some y->y.2+2<=lo/\y.2+1<r.1)->0<=lo->
  0<=r.1->r.1<=r.2->r.2<=Most->
  Canon 0 (putEnd (l.foldl putStep (out,r,false)))/\∀n,Mem (putEnd (l.foldl putStep (out,r,false))) n ↔ Mem out n\/Mem l n\/(r.1<=n/\n<=r.2):=by
 induction l with
 |nil=>
  intro out r lo _ ho hl _ h0 h1 h2
  simp only[List.foldl_nil,putEnd,Bool.false_eq_true,if_false]
  refine⟨canon_append.2 ⟨ho, ?_⟩,fun n=> ?_⟩
  ·rcases hg:out.getLast? with _ | y
   ·exact⟨h0,h1,h2,trivial⟩
   ·exact⟨by have:=(hl y hg).2;simp only;omega,h1,h2,trivial⟩
  ·rw[mem_append,mem_cons];simp[mem_nil]
 |cons y l ih=>
  intro out r lo h ho hl hlo h0 h1 h2
  obtain⟨g1,g2,g3,g4⟩:=h
  rw[List.foldl_cons]
  by_cases c1:y.2+1<r.1
  ·have e:putStep (out,r,false) y=(out++ [y],r,false):=by unfold putStep;simp[c1]
   rw[e]
   have hc:Canon 0 (out++ [y]):=canon_append.2 ⟨ho,by
    rcases hg:out.getLast? with _ | z
    ·exact⟨by simp only;omega,g2,g3,trivial⟩
    ·exact⟨by have:=(hl z hg).1;simp only;omega,g2,g3,trivial⟩⟩
   obtain⟨i1,i2⟩:=ih (out++ [y]) r (y.2+2) g4 hc (fun z hz=>by simp at hz;subst hz;exact⟨Int.le_refl _,c1⟩) (by omega) h0 h1 h2
   refine⟨i1,fun n=> ?_⟩
   rw[i2,mem_append,mem_cons,mem_cons]
   simp only[mem_nil,or_false,or_assoc]
  ·by_cases c2:r.2+1<y.1
   ·have e:putStep (out,r,false) y=(out++ [r]++ [y],r,true):=by unfold putStep;simp[c1,c2]
    rw[e]
    rcases put_done l (out++ [r]++ [y]) r (y.2+2) g4 (by omega)with hd | hd<;>
    ·rw[hd]
     simp only[putEnd,if_true]
     refine⟨?_,fun n=> ?_⟩
     ·rw[List.append_assoc,List.append_assoc]
      refine canon_append.2 ⟨ho, ?_⟩
      refine⟨?_,h1,h2, ?_,g2,g3, ?_⟩
      ·rcases hg:out.getLast? with _ | z
       ·exact h0
       ·have:=(hl z hg).2;show z.2+2<=r.1;omega
      ·show r.2+2<=y.1;omega
      ·simpa using g4
     ·simp only[mem_append,mem_cons,mem_nil,or_false]
      constructor
      ·rintro(((h | h) | h) | h)
       ·exact .inl h
       ·exact .inr (.inr h)
       ·exact .inr (.inl (.inl h))
       ·exact .inr (.inl (.inr h))
      ·rintro(h | (h | h) | h)
       ·exact .inl (.inl (.inl h))
       ·exact .inl (.inr h)
       ·exact .inr h
       ·exact .inl (.inl (.inr h))
   ·have e:putStep (out,r,false) y=(out,(min r.1 y.1,max r.2 y.2),false):=by unfold putStep;simp[c1,c2]
    rw[e]
    obtain⟨i1,i2⟩:=ih out (min r.1 y.1,max r.2 y.2) (y.2+2) g4 ho (fun z hz=>by have:=hl z hz;simp only;omega) (by omega) (by simp only;omega) (by simp only;omega) (by simp only;omega)
    refine⟨i1,fun n=> ?_⟩
    rw[i2,mem_cons]
    simp only
    constructor
    ·rintro(h | h | h)
     ·exact .inl h
     ·exact .inr (.inl (.inr h))
     ·by_cases hh:r.1<=n/\n<=r.2
      ·exact .inr (.inr hh)
      ·exact .inr (.inl (.inl (by omega)))
    ·rintro(h | (h | h) | h)
     ·exact .inl h
     ·exact .inr (.inr (by omega))
     ·exact .inr (.inl h)
     ·exact .inr (.inr (by omega))
theorem put_ok{l:List Run}(x:Run)(h:Canon 0 l):Canon 0 (put l x)/\∀n,Mem (put l x) n ↔ Mem l n\/(x.1<=n/\n<=x.2/\0<=n/\n<=Most):=by
 unfold put
 by_cases hc:(clip x).1<=(clip x).2
 ·rw[if_pos hc]
  obtain⟨i1,i2⟩:=put_from l [] (clip x) 0 h trivial (fun y hy=>by simp at hy) (Int.le_refl _) (by simp only[clip];omega) hc (by simp only[clip];omega)
  refine⟨i1,fun n=> ?_⟩
  rw[i2]
  simp only[mem_nil,false_or,clip]
  constructor
  ·rintro(h | h)
   ·exact .inl h
   ·exact .inr (by omega)
  ·rintro(h | h)
   ·exact .inl h
   ·exact .inr (by omega)
 ·rw[if_neg hc]
  refine⟨h,fun n=>⟨.inl, ?_⟩⟩
  rintro(h | h)
  ·exact h
  ·simp only[clip]at hc;omega
theorem norm_from(l:List Run):∀ (out:List Run),Canon 0 out->Canon 0 (l.foldl put out)/\∀n,Mem (l.foldl put out) n ↔ Mem out n\/(Mem l n/\0<=n/\n<=Most):=by
 induction l with
 |nil=>intro out h;exact⟨h,fun n=>by simp[mem_nil]⟩
 |cons x l ih=>
  intro out h
  obtain⟨c,m⟩:=put_ok x h
  obtain⟨c2,m2⟩:=ih (put out x) c
  refine⟨c2,fun n=> ?_⟩
  rw[List.foldl_cons,m2,m,mem_cons]
  constructor
  ·rintro((h | h) | h)
   ·exact .inl h
   ·exact .inr ⟨.inl ⟨h.1,h.2.1⟩,h.2.2⟩
   ·exact .inr ⟨.inr h.1,h.2⟩
  ·rintro(h | ⟨h | h,h'⟩)
   ·exact .inl (.inl h)
   ·exact .inl (.inr ⟨h.1,h.2,h'⟩)
   ·exact .inr ⟨h,h'⟩
theorem norm_ok(l:List Run):Canon 0 (norm l)/\∀n,Mem (norm l) n ↔ Mem l n/\0<=n/\n<=Most:=by
 obtain⟨c,m⟩:=norm_from l [] trivial
 exact⟨c,fun n=>by unfold norm;rw[m];simp[mem_nil]⟩
theorem norm_eq{l s:List Run}(hp:s.Perm (kept l))(hs:s.Pairwise (fun a b=>a.1<=b.1)):merged s=norm l:=by
 obtain⟨c1,m1⟩:=sorted_merged hp hs
 obtain⟨c2,m2⟩:=norm_ok l
 exact canon_unique _ _ _ _ c1 c2 fun n=>by rw[m1,m2]
theorem putStep_len(st:List Run × Run × Bool)(y:Run):(putStep st y).1.length<=st.1.length+1+(if st.2.2 then 0 else if(putStep st y).2.2 then 1 else 0):=by
 unfold putStep
 by_cases h1:y.2+1<st.2.1.1
 ·simp[h1]
 ·by_cases h2:st.2.1.2+1<y.1
  ·by_cases h3:st.2.2
   ·simp[h1,h2,h3]
   ·simp[h1,h2,h3]
  ·simp[h1,h2];omega
end Rp
namespace Rp
def restStep(st:List Run × Int)(r:Run):List Run × Int:=(if st.2<r.1 then st.1++ [(st.2,r.1-1)]else st.1,r.2+1)
def restEnd(st:List Run × Int):List Run:=if st.2<=Most then st.1++ [(st.2,Most)]else st.1
def rest(l:List Run):List Run:=restEnd ((norm l).foldl restStep ([],0))
theorem rest_from(l:List Run):∀ (out:List Run) (from_ lo:Int),Canon lo l->from_<=lo->0<=from_->Canon 0 out->(∀y,out.getLast? =some y->y.2+2<=from_)->from_<=Most+1->
  Canon 0 (restEnd (l.foldl restStep (out,from_)))/\∀n,Mem (restEnd (l.foldl restStep (out,from_))) n ↔ Mem out n\/(from_<=n/\n<=Most/\¬Mem l n):=by
 induction l with
 |nil=>
  intro out f lo _ _ h0 ho hl hm
  by_cases hle:f<=Most
  ·have e:restEnd ([].foldl restStep (out,f))=out++ [(f,Most)]:=if_pos hle
   rw[e]
   refine⟨canon_append.2 ⟨ho, ?_⟩,fun n=> ?_⟩
   ·rcases hg:out.getLast? with _ | y
    ·exact⟨h0,hle,Int.le_refl _,trivial⟩
    ·exact⟨hl y hg,hle,Int.le_refl _,trivial⟩
   ·rw[mem_append,mem_cons];simp[mem_nil]
  ·have e:restEnd ([].foldl restStep (out,f))=out:=if_neg hle
   rw[e]
   refine⟨ho,fun n=>⟨.inl, ?_⟩⟩
   rintro(h | h)
   ·exact h
   ·omega
 |cons r l ih=>
  intro out f lo h hlo h0 ho hl hm
  obtain⟨g1,g2,g3,g4⟩:=h
  rw[List.foldl_cons]
  unfold restStep
  simp only
  by_cases hf:f<r.1
  ·rw[if_pos hf]
   have hc:Canon 0 (out++ [(f,r.1-1)]):=canon_append.2 ⟨ho,by
    rcases hg:out.getLast? with _ | y
    ·exact⟨h0,by simp only;omega,by simp only;omega,trivial⟩
    ·exact⟨hl y hg,by simp only;omega,by simp only;omega,trivial⟩⟩
   obtain⟨i1,i2⟩:=ih (out++ [(f,r.1-1)]) (r.2+1) (r.2+2) g4 (by omega) (by omega) hc (fun y hy=>by simp at hy;subst hy;simp only;omega) (by omega)
   refine⟨i1,fun n=> ?_⟩
   show Mem (restEnd (l.foldl restStep (out++ [(f,r.1-1)],r.2+1))) n ↔ _
   rw[i2,mem_append,mem_cons,mem_cons]
   simp only[mem_nil,or_false]
   constructor
   ·rintro((h | h) | h)
    ·exact .inl h
    ·refine .inr ⟨h.1,by omega, ?_⟩
     rintro(h' | h')
     ·omega
     ·have:=g4.ge h';omega
    ·refine .inr ⟨by omega,h.2.1, ?_⟩
     rintro(h' | h')
     ·omega
     ·exact h.2.2 h'
   ·rintro(h | ⟨h1,h2,h3⟩)
    ·exact .inl (.inl h)
    ·by_cases hn:n<=r.1-1
     ·exact .inl (.inr ⟨h1,hn⟩)
     ·refine .inr ⟨?_,h2,fun h'=>h3 (.inr h')⟩
      rcases Int.lt_or_le r.2 n with h4 | h4
      ·omega
      ·exact absurd (.inl ⟨by omega,h4⟩) h3
  ·rw[if_neg hf]
   have hl':∀y,out.getLast? =some y->y.2+2<=r.2+1:=fun y hy=>by have:=hl y hy;omega
   obtain⟨i1,i2⟩:=ih out (r.2+1) (r.2+2) g4 (by omega) (by omega) ho hl' (by omega)
   refine⟨i1,fun n=> ?_⟩
   show Mem (restEnd (l.foldl restStep (out,r.2+1))) n ↔ _
   rw[i2,mem_cons]
   constructor
   ·rintro(h | h)
    ·exact .inl h
    ·refine .inr ⟨by omega,h.2.1, ?_⟩
     rintro(h' | h')
     ·omega
     ·exact h.2.2 h'
   ·rintro(h | ⟨h1,h2,h3⟩)
    ·exact .inl h
    ·refine .inr ⟨?_,h2,fun h'=>h3 (.inr h')⟩
     rcases Int.lt_or_le r.2 n with h4 | h4
     ·omega
     ·exact absurd (.inl ⟨by omega,h4⟩) h3
theorem rest_ok(l:List Run):Canon 0 (rest l)/\∀n,Mem (rest l) n ↔ 0<=n/\n<=Most/\¬Mem l n:=by
 obtain⟨c,m⟩:=norm_ok l
 obtain⟨i1,i2⟩:=rest_from (norm l) [] 0 0 c (Int.le_refl _) (Int.le_refl _) trivial (fun y hy=>by simp at hy) (by unfold Most;omega)
 refine⟨i1,fun n=> ?_⟩
 unfold rest
 rw[i2,m]
 simp only[mem_nil,false_or]
 constructor
 ·rintro⟨h1,h2,h3⟩;exact⟨h1,h2,fun h=>h3 ⟨h,h1,h2⟩⟩
 ·rintro⟨h1,h2,h3⟩;exact⟨h1,h2,fun h=>h3 h.1⟩
theorem restStep_len(l:List Run):∀st:List Run × Int,(l.foldl restStep st).1.length<=st.1.length+l.length:=by
 induction l with
 |nil=>intro st;simp
 |cons r l ih=>
  intro st
  rw[List.foldl_cons,List.length_cons]
  have h:=ih (restStep st r)
  have h2:(restStep st r).1.length<=st.1.length+1:=by unfold restStep;simp only;split<;>simp
  omega
theorem rest_len(l:List Run):(rest l).length<=(norm l).length+1:=by
 have h:=restStep_len (norm l) ([],0)
 unfold rest restEnd
 split<;>simp at h ⊢ <;>omega
def union(a b:List Run):List Run:=norm (a++b)
theorem union_ok(a b:List Run):Canon 0 (union a b)/\∀n,Mem (union a b) n ↔ (Mem a n\/Mem b n)/\0<=n/\n<=Most:=by
 obtain⟨c,m⟩:=norm_ok (a++b)
 exact⟨c,fun n=>by unfold union;rw[m,mem_append]⟩
def meet(a b:List Run):List Run:=rest (union (rest a) (rest b))
theorem meet_ok(a b:List Run):Canon 0 (meet a b)/\∀n,Mem (meet a b) n ↔ 0<=n/\n<=Most/\Mem a n/\Mem b n:=by
 obtain⟨c,m⟩:=rest_ok (union (rest a) (rest b))
 refine⟨c,fun n=> ?_⟩
 unfold meet
 rw[m,(union_ok _ _).2,(rest_ok a).2,(rest_ok b).2]
 by_cases h0:0<=n<;>by_cases h1:n<=Most<;>by_cases ha:Mem a n<;>by_cases hb:Mem b n<;>simp[h0,h1,ha,hb]
def minus(a b:List Run):List Run:=meet a (rest b)
theorem minus_ok(a b:List Run):Canon 0 (minus a b)/\∀n,Mem (minus a b) n ↔ 0<=n/\n<=Most/\Mem a n/\¬Mem b n:=by
 obtain⟨c,m⟩:=meet_ok a (rest b)
 refine⟨c,fun n=> ?_⟩
 unfold minus
 rw[m,(rest_ok b).2]
 constructor
 ·rintro⟨h0,h1,h2,h3⟩;exact⟨h0,h1,h2,h3.2.2⟩
 ·rintro⟨h0,h1,h2,h3⟩;exact⟨h0,h1,h2,h0,h1,h3⟩
theorem mem_one(x n:Int):Mem [(x,x)] n ↔ n=x:=by
 rw[mem_cons];simp only[mem_nil,or_false];omega
def has(l:List Run)(n:Int):Bool:=decide (0<=n)&&decide (n<=Most)&&l.any fun r=>decide (r.1<=n)&&decide (n<=r.2)
theorem has_iff(l:List Run)(n:Int):has l n=true ↔ 0<=n/\n<=Most/\Mem l n:=by
 unfold has Mem
 simp only[Bool.and_eq_true,decide_eq_true_eq,List.any_eq_true,and_assoc]
def size(l:List Run):Int:=(l.map fun r=>r.2-r.1+1).sum
def first(l:List Run):Option Int:=(norm l).head?.map (·.1)
theorem norm_canon{l:List Run}(h:Canon 0 l):norm l=l:=by
 obtain⟨c,m⟩:=norm_ok l
 refine canon_unique _ _ _ _ c h fun n=> ?_
 rw[m]
 exact⟨fun h=>h.1,fun hm=>⟨hm,h.ge hm,h.le hm⟩⟩
end Rp
namespace Rp
def nums(l:List Run):List Int:=l.flatMap fun r=>(List.range (r.2-r.1+1).toNat).map fun i:Nat=>r.1+(i:Int)
theorem nums_cons(r:Run)(l:List Run):nums (r::l)=((List.range (r.2-r.1+1).toNat).map fun i:Nat=>r.1+(i:Int))++nums l:=by
 unfold nums;rw[List.flatMap_cons]
theorem mem_run{r:Run}{x:Int} :x∈((List.range (r.2-r.1+1).toNat).map fun i:Nat=>r.1+(i:Int)) ↔ r.1<=x/\x<=r.2:=by
 rw[List.mem_map]
 constructor
 ·rintro⟨i,hi,rfl⟩
  rw[List.mem_range]at hi;omega
 ·rintro⟨h1,h2⟩
  exact⟨(x-r.1).toNat,by rw[List.mem_range];omega,by omega⟩
theorem mem_nums{l:List Run}{x:Int} :x∈nums l ↔ Mem l x:=by
 induction l with
 |nil=>simp[nums,mem_nil]
 |cons r l ih=>rw[nums_cons,List.mem_append,mem_run,ih,mem_cons]
theorem range_nodup(a:Int)(n:Nat):((List.range n).map fun i:Nat=>a+(i:Int)).Nodup:=by
 unfold List.Nodup
 rw[List.pairwise_map]
 exact List.Pairwise.imp (fun h e=>h (by omega)) (List.nodup_range (n:=n))
def least(l:List Run):Option Int:=(nums (norm l)).head?
theorem mem_two{p x:Int} :Mem [(2,p-1)] x ↔ 2<=x/\x<p:=by
 rw[mem_cons];simp only[mem_nil,or_false];omega
structure Ap(room:Int)(fr used:List Run)(mine:List Int)(p:Int):Prop where
 pg:2<=p/\p<=room/\room<=100000
 cf:Canon 0 fr
 cu:Canon 0 used
 hf:∀x,Mem fr x->2<=x/\x<p
 hu:∀x,Mem used x->2<=x/\x<p
 hm:∀x,x∈mine->2<=x/\x<p
 all:∀x,2<=x->x<p->Mem fr x\/Mem used x\/x∈mine
 fu:∀x,Mem fr x->¬Mem used x
 fm:∀x,Mem fr x->x ∉ mine
 um:∀x,Mem used x->x ∉ mine
 nd:mine.Nodup
section
variable {room p:Int}{fr used:List Run}{mine:List Int}
theorem Ap.start(l:List Run)(h:2<=p/\p<=room/\room<=100000):Ap room (meet l [(2,p-1)]) (minus [(2,p-1)] l) [] p:=by
 obtain⟨c1,m1⟩:=meet_ok l [(2,p-1)]
 obtain⟨c2,m2⟩:=minus_ok [(2,p-1)] l
 refine⟨h,c1,c2,fun x hx=>mem_two.1 ((m1 x).1 hx).2.2.2,fun x hx=>mem_two.1 ((m2 x).1 hx).2.2.1,fun x hx=>absurd hx List.not_mem_nil,fun x h1 h2=> ?_,fun x hx hy=>((m2 x).1 hy).2.2.2 ((m1 x).1 hx).2.2.1,fun x _ hx=>absurd hx List.not_mem_nil,fun x _ hx=>absurd hx List.not_mem_nil,List.nodup_nil⟩
 have h3:0<=x/\x<=Most:=by unfold Most;omega
 by_cases hl:Mem l x
 ·exact .inl ((m1 x).2 ⟨h3.1,h3.2,hl,mem_two.2 ⟨h1,h2⟩⟩)
 ·exact .inr (.inl ((m2 x).2 ⟨h3.1,h3.2,mem_two.2 ⟨h1,h2⟩,hl⟩))
theorem has_used{used:List Run}{x:Int}(hx:¬Mem used x):has used x=false:=by
 cases hh:has used x with
 |false=>rfl
 |true=>exact absurd ((has_iff _ _).1 hh).2.2 hx
theorem least_mem{l:List Run}(hc:Canon 0 l){id:Int}(h:least l=some id):Mem l id:=by
 unfold least at h
 rw[norm_canon hc]at h
 exact mem_nums.1 (List.mem_of_head? h)
theorem least_none{l:List Run}(hc:Canon 0 l)(h:least l=none)(x:Int):¬Mem l x:=by
 unfold least at h
 rw[norm_canon hc,List.head?_eq_none_iff]at h
 intro hm
 have:=mem_nums.2 hm
 rw[h]at this;cases this
theorem Ap.free(h:Ap room fr used mine p){id:Int}(hid:least fr=some id):
  id ∉ mine/\has used id=false/\2<=id/\id<p/\Ap room (minus fr [(id,id)]) used (mine++ [id]) p:=by
 have hm:=least_mem h.cf hid
 have hr:=h.hf id hm
 obtain⟨c,m⟩:=minus_ok fr [(id,id)]
 refine⟨h.fm id hm,has_used (h.fu id hm),hr.1,hr.2,h.pg,c,h.cu,fun x hx=>h.hf x ((m x).1 hx).2.2.1,h.hu,fun x hx=> ?_,fun x h1 h2=> ?_,fun x hx=>h.fu x ((m x).1 hx).2.2.1,fun x hx hx2=> ?_,fun x hx hx2=> ?_, ?_⟩
 ·rcases List.mem_append.1 hx with hx | hx
  ·exact h.hm x hx
  ·simp at hx;subst hx;exact hr
 ·have h3:=h.pg
  rcases h.all x h1 h2 with h4 | h4 | h4
  ·by_cases e:x=id
   ·subst e;exact .inr (.inr (by simp))
   ·exact .inl ((m x).2 ⟨by omega,by unfold Most;omega,h4,fun h5=>e ((mem_one id x).1 h5)⟩)
  ·exact .inr (.inl h4)
  ·exact .inr (.inr (List.mem_append_left _ h4))
 ·obtain⟨_,_,h4,h5⟩:=(m x).1 hx
  rcases List.mem_append.1 hx2 with h6 | h6
  ·exact h.fm x h4 h6
  ·simp at h6;exact h5 ((mem_one id x).2 h6)
 ·rcases List.mem_append.1 hx2 with h6 | h6
  ·exact h.um x hx h6
  ·simp at h6;subst h6;exact h.fu x hm hx
 ·rw[List.nodup_append]
  exact⟨h.nd,by simp,fun a ha b hb e=>by simp at hb;subst hb;subst e;exact h.fm _ hm ha⟩
theorem Ap.fresh(h:Ap room fr used mine p)(hp:p<room):
  p ∉ mine/\has used p=false/\Ap room fr used (mine++ [p]) (p+1):=by
 have hpm:p ∉ mine:=fun hx=>by have:=h.hm p hx;omega
 have hpu:¬Mem used p:=fun hx=>by have:=h.hu p hx;omega
 have hpf:¬Mem fr p:=fun hx=>by have:=h.hf p hx;omega
 have h0:=h.pg
 refine⟨hpm,has_used hpu,by omega,h.cf,h.cu,fun x hx=>by have:=h.hf x hx;omega,fun x hx=>by have:=h.hu x hx;omega,fun x hx=> ?_,fun x h1 h2=> ?_,h.fu,fun x hx hx2=> ?_,fun x hx hx2=> ?_, ?_⟩
 ·rcases List.mem_append.1 hx with hx | hx
  ·have:=h.hm x hx;omega
  ·simp at hx;omega
 ·by_cases e:x=p
  ·subst e;exact .inr (.inr (by simp))
  ·rcases h.all x h1 (by omega)with h4 | h4 | h4
   ·exact .inl h4
   ·exact .inr (.inl h4)
   ·exact .inr (.inr (List.mem_append_left _ h4))
 ·rcases List.mem_append.1 hx2 with h6 | h6
  ·exact h.fm x hx h6
  ·simp at h6;subst h6;exact hpf hx
 ·rcases List.mem_append.1 hx2 with h6 | h6
  ·exact h.um x hx h6
  ·simp at h6;subst h6;exact hpu hx
 ·rw[List.nodup_append]
  exact⟨h.nd,by simp,fun a ha b hb e=>by simp at hb;subst hb;subst e;exact hpm ha⟩
theorem Ap.dropped(h:Ap room fr used mine p){id:Int}(hid:id∈mine):Ap room (union fr [(id,id)]) used (mine.filter fun x=>x != id) p:=by
 obtain⟨c,m⟩:=union_ok fr [(id,id)]
 have hr:=h.hm id hid
 have h0:=h.pg
 have hx2:∀x,x∈(mine.filter fun x=>x != id) ↔ x∈mine/\x≠id:=fun x=>by rw[List.mem_filter];simp
 refine⟨h.pg,c,h.cu,fun x hx=> ?_,h.hu,fun x hx=>h.hm x ((hx2 x).1 hx).1,fun x h1 h2=> ?_,fun x hx hu=> ?_,fun x hx hm=> ?_,fun x hx hm=>h.um x hx ((hx2 x).1 hm).1,h.nd.sublist List.filter_sublist⟩
 ·rcases((m x).1 hx).1 with h4 | h4
  ·exact h.hf x h4
  ·rw[(mem_one id x).1 h4];exact hr
 ·have hb:0<=x/\x<=Most:=by unfold Most;omega
  rcases h.all x h1 h2 with h4 | h4 | h4
  ·exact .inl ((m x).2 ⟨.inl h4,hb⟩)
  ·exact .inr (.inl h4)
  ·by_cases e:x=id
   ·exact .inl ((m x).2 ⟨.inr ((mem_one id x).2 e),hb⟩)
   ·exact .inr (.inr ((hx2 x).2 ⟨h4,e⟩))
 ·rcases((m x).1 hx).1 with h4 | h4
  ·exact h.fu x h4 hu
  ·rw[(mem_one id x).1 h4]at hu;exact h.um id hu hid
 ·obtain⟨h5,h6⟩:=(hx2 x).1 hm
  rcases((m x).1 hx).1 with h4 | h4
  ·exact h.fm x h4 h5
  ·exact h6 ((mem_one id x).1 h4)
theorem filter_out{l:List Int}{id:Int}(h:id ∉ l):(l.filter fun x=>x != id)=l:=by
 rw[List.filter_eq_self]
 intro a ha
 simp only[bne_iff_ne,ne_eq]
 rintro rfl
 exact h ha
end
end Rp
namespace Tp
open Nd
abbrev Run:=Rp.Run
structure Pst where
 free:List Run
 pages:Int
 mine:List Int
 nd:Int->Option Node
def Pst.put(σ:Pst)(id:Int)(n:Node):Pst:= { σ with nd:=fun j=>if j=id then some n else σ.nd j }
def Pst.view(disk:Int->Option Node)(σ:Pst)(id:Int):Option Node:=
 if id∈σ.mine then σ.nd id else if 2<=id/\id<σ.pages/\Rp.has σ.free id=false then disk id else none
def allocV(free:List Run)(pages room:Int):Option (Int × List Run × Int):=
 match Rp.least free with
 |some id=>some (id,Rp.minus free [(id,id)],pages)
 |none=>if room<=pages then none else some (pages,free,pages+1)
def pAlloc(room:Int)(σ:Pst):Option (Int × Pst):=match allocV σ.free σ.pages room with
 |none=>none
 |some (id,fr,p)=>some (id,⟨fr,p,σ.mine++ [id],fun j=>if j=id then none else σ.nd j⟩)
def pDrop(σ:Pst)(id:Int):Pst:= { σ with free:=if id∈σ.mine then Rp.union σ.free [(id,id)]else σ.free,mine:=σ.mine.filter fun x=>x != id }
def pSave(room:Int)(σ:Pst)(id:Int)(n:Node):Except Int Int × Pst:=
 if fits n=false then(.error 3,σ)
 else if id∈σ.mine then(.ok id,σ.put id n)
 else match pAlloc room σ with
  |none=>(.error 2,σ)
  |some (id',σ')=>(.ok id',σ'.put id' n)
abbrev Part:=List Int × List En.Str
def cut(n:Node):Option (Node × En.Str × Node):=if 240<size n then split n else none
def pStore(room:Int):Nat->Pst->Int->Node->Except Int Part × Pst
 |0,σ,_,_=>(.error 3,σ)
 |f+1,σ,id,n=>
  if n.ents.length+n.kids.length=0 then(.ok ([], []),pDrop σ id)
  else match cut n with
   |some (a,key,b)=>match pStore room f σ id a with
    |(.error e,σ1)=>(.error e,σ1)
    |(.ok one,σ1)=>match pStore room f σ1 0 b with
     |(.error e,σ2)=>(.error e,σ2)
     |(.ok two,σ2)=>(.ok (one.1++two.1,one.2++ [key]++two.2),σ2)
   |none=>match pSave room σ id n with
    |(.error e,σ1)=>(.error e,σ1)
    |(.ok p,σ1)=>(.ok ([p], []),σ1)
def fuelOf(n:Node):Nat:=n.ents.length+n.kids.length+1
def sib(n:Node)(i:Nat):Nat:=if i+1=n.kids.length then i-1 else i
def pFill(room:Int)(disk:Int->Option Node)(σ:Pst)(n:Node)(i d:Nat):Except Int Node × Pst:=
 if 24<=d then(.error 3,σ)else
 match σ.view disk (n.kids.getD i 0)with
 |none=>(.error 3,σ)
 |some kid=>if 80<=size kid then(.ok n,σ)else
  match σ.view disk (n.kids.getD (sib n i) 0)with
  |none=>(.error 3,σ)
  |some a=>match σ.view disk (n.kids.getD (sib n i+1) 0)with
   |none=>(.error 3,σ)
   |some b=>if(a.leaf != b.leaf)=true\/fits (join a (n.keys.getD (sib n i) ⟨#[]⟩) b)=false then(.ok n,σ)
    else match pSave room σ (n.kids.getD (sib n i) 0) (join a (n.keys.getD (sib n i) ⟨#[]⟩) b)with
     |(.error e,σ1)=>(.error e,σ1)
     |(.ok page,σ1)=>(.ok (swap n (sib n i) (sib n i+2) [page] []),pDrop σ1 (n.kids.getD (sib n i+1) 0))
def pFillIf(room:Int)(disk:Int->Option Node)(p:Part)(σ:Pst)(n:Node)(i d:Nat):Except Int Node × Pst:=
 if p.1.length=1/\1<n.kids.length then pFill room disk σ n i d else(.ok n,σ)
def pChange(room:Int)(disk:Int->Option Node)(g:List En.Ent->List En.Ent)(key:En.Str):Nat->Pst->Int->Except Int Part × Pst
 |0,σ,_=>(.error 3,σ)
 |f+1,σ,id=>match σ.view disk id with
  |none=>(.error 3,σ)
  |some n=>if n.leaf then pStore room (fuelOf (mkLeaf (g n.ents))) σ id (mkLeaf (g n.ents))
   else match pChange room disk g key f σ (n.kids.getD (child n.keys key) 0)with
    |(.error e,σ1)=>(.error e,σ1)
    |(.ok p,σ1)=>match pFillIf room disk p σ1 (swap n (child n.keys key) (child n.keys key+1) p.1 p.2) (child n.keys key) (24-f)with
     |(.error e,σ2)=>(.error e,σ2)
     |(.ok n2,σ2)=>pStore room (fuelOf n2) σ2 id n2
def pShrink(disk:Int->Option Node):Nat->Pst->Int->Except Int Int × Pst
 |0,σ,_=>(.error 3,σ)
 |f+1,σ,id=>match σ.view disk id with
  |none=>(.error 3,σ)
  |some n=>if n.leaf=true\/1<n.kids.length then(.ok id,σ)else pShrink disk f (pDrop σ id) (n.kids.getD 0 0)
def pGrow(room:Int)(disk:Int->Option Node):Nat->Pst->Part->Except Int Int × Pst
 |0,σ,_=>(.error 3,σ)
 |f+1,σ,p=>
  if 1<p.1.length then match pStore room (p.1.length+1) σ 0 (mkInner p.1 p.2)with
   |(.error e,σ1)=>(.error e,σ1)
   |(.ok q,σ1)=>pGrow room disk f σ1 q
  else match p.1 with
   | []=>(.ok 0,σ)
   |id::_=>pShrink disk 24 σ id
def pFirst(room:Int)(disk:Int->Option Node)(g:List En.Ent->List En.Ent)(key:En.Str)(σ:Pst)(root:Int):Except Int Part × Pst:=
 if root=0 then pStore room (fuelOf (mkLeaf (g []))) σ 0 (mkLeaf (g []))else pChange room disk g key 24 σ root
def pUpdate(room:Int)(disk:Int->Option Node)(g:List En.Ent->List En.Ent)(key:En.Str)(σ:Pst)(root:Int):Except Int Int × Pst:=
 match pFirst room disk g key σ root with
 |(.error e,σ1)=>(.error e,σ1)
 |(.ok p,σ1)=>pGrow room disk (p.1.length+1) σ1 p
def pFind(disk:Int->Option Node)(σ:Pst)(key:En.Str):Nat->Int->Except Int (Option En.Str)
 |0,id=>if id=0 then .ok none else .error 3
 |f+1,id=>if id=0 then .ok none else match σ.view disk id with
  |none=> .error 3
  |some n=>if n.leaf then .ok (En.get n.ents key)else pFind disk σ key f (n.kids.getD (child n.keys key) 0)
def goKids{S:Type}(vis:Int->S->S × Except Int Bool):List Int->S->S × Except Int Bool
 | [],s=>(s, .ok true)
 |k::r,s=>match vis k s with
  |(s', .ok true)=>goKids vis r s'
  |(s',x)=>(s',x)
def place(l:List En.Ent)(key:En.Str):Nat:=(l.takeWhile fun x=>En.lt x.1 key).length
def pVisit{S:Type}(disk:Int->Option Node)(σ:Pst)(frm:En.Str)(step:S->List En.Ent->S × Bool):Nat->Int->S->S × Except Int Bool
 |0,_,s=>(s, .error 3)
 |f+1,id,s=>match σ.view disk id with
  |none=>(s, .error 3)
  |some n=>if n.leaf then((step s (n.ents.drop (place n.ents frm))).1, .ok (step s (n.ents.drop (place n.ents frm))).2)
   else goKids (pVisit disk σ frm step f) (n.kids.drop (child n.keys frm)) s
def pWalkKids(wk:List (Int × Nat × Node)->Int->List (Int × Nat × Node) × Int):List Int->List (Int × Nat × Node)->List (Int × Nat × Node) × Int
 | [],l=>(l,0)
 |k::r,l=>match wk l k with
  |(l',0)=>pWalkKids wk r l'
  |(l',e)=>(l',e)
def pWalk(disk:Int->Option Node)(σ:Pst):Nat->List (Int × Nat × Node)->Int->List (Int × Nat × Node) × Int
 |0,l,_=>(l,3)
 |f+1,l,id=>match σ.view disk id with
  |none=>(l,3)
  |some n=>pWalkKids (pWalk disk σ f) n.kids (l++ [(id,24-(f+1),n)])
end Tp
