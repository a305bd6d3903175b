/- Part of this proof. -/
import Derived.Test.YtadnmegdbllaoaaGreatDoorK919
set_option maxRecDepth 100000
set_option maxHeartbeats 8000000
open Array renaming getD->ac5,getElem_mem->agU,mem_toList_iff->adf
open Bool renaming true_and->akP
open Go.Calls renaming mono->aac
open Go.IntWalk renaming i64_in->acK
open Go.Region renaming binds->agp,ready->adv,wanted->adi
open Go.RowKit.Below renaming refl->aai
open Go.Value renaming int->acS,slice->ady
open Go.World renaming size_alloc->aad
open Go.World.ownsRow renaming lt->ada
open List renaming drop_eq_getElem_cons->ade,getElem?_eq_some_iff->ajS,getElem?_map->ajZ,getElem_mem->acT,length_cons->acH,length_drop->acP,length_eq_zero_iff->adu,map_cons->acX,map_toArray->ac7,mem_append->aaf,mem_append_left->acM,mem_append_right->acL,mem_cons->aah,mem_cons_of_mem->acF,mem_cons_self->aae,mem_of_getElem?->agl,mem_singleton->acI,nodup_append->acG,nodup_cons->acZ,not_mem_nil->aaj,range->ac9,take_length->ahe,take_succ_eq_append_getElem->acO
open Nat renaming le_trans->acN
namespace Go.Proofs.YtadnmegdbllaoaaGreatDoor
open Go.RowKit Go.Shelf Sq Tryz
theorem afs:∀args w,(callFunc 98 args).run prog w= .ok (.enter 98 args) w:=λargs w=>by kernel_rfl
section
variable {o:Oper}{a:Act}{w:World}{x y:Operand}
theorem aiV{i j:Int}(ho:o.op= .binOp .neq 3 x y 3)(hx:a.eval x= .int .i64 i)(hy:a.eval y= .int .i64 j):(execOp a.eval o).run prog w= .ok (.value (.bool (i != j))) w:=by
 unfold execOp;simp only[ho,hx,hy];simp[go_sem]
theorem arf{b c:Bool}{z:Operand}(ho:o.op= .pick x y z)(hx:a.eval x= .bool b)(hy:a.eval y= .bool true)(hz:b=false->a.eval z= .bool c):(execOp a.eval o).run prog w= .ok (.value (.bool (b||c))) w:=
 mM ho hx (by
  cases b with
  |true=>simpa using hy
  |false=>simpa using hz rfl)
theorem aft{b c:Bool}{z:Operand}(ho:o.op= .pick x y z)(hx:a.eval x= .bool b)(hy:b=true->a.eval y= .bool c)(hz:a.eval z= .bool false):(execOp a.eval o).run prog w= .ok (.value (.bool (b&&c))) w:=
 mM ho hx (by
  cases b with
  |false=>simpa using hz
  |true=>simpa using hy rfl)
theorem X8{k:Tok}(ho:o.op= .buildSlice 57 1 #[(0,x)])(hx:a.eval x=aG k):(execOp a.eval o).run prog w= .ok (.value (.slice (some ⟨w.heap.size,0,none⟩) 1 1)) (w.alloc (.cells (aI k) 71)):=by
 unfold execOp;simp only[ho,ac7,acX,List.map_nil,hx];simp[go_sem]
theorem uU{b off n c:Nat}(ho:o.op= .indexAddr 164 x (.const (.int .i64 0)))(hx:a.eval x= .slice (some ⟨b,off,none⟩) n c)(hi:0<n):(execOp a.eval o).run prog w= .ok (.value (.pointer (some ⟨b,off,none⟩))) w:=by
 unfold execOp;simp only[ho,hx];have h1:(0:Int)<n:=by omega
 simp[go_sem,hi]
theorem Ll{b off n c:Nat}(ho:o.op= .indexAddr 57 x (.const (.int .i64 0)))(hx:a.eval x= .slice (some ⟨b,off,none⟩) n c)(hi:0<n):(execOp a.eval o).run prog w= .ok (.value (.pointer (some ⟨b,off,none⟩))) w:=by
 unfold execOp;simp only[ho,hx];have h1:(0:Int)<n:=by omega
 simp[go_sem,hi]
theorem uV{b off:Nat}(ho:o.op= .fieldAddr 168 x 1)(hx:a.eval x= .pointer (some ⟨b,off,none⟩)):(execOp a.eval o).run prog w= .ok (.value (.pointer (some ⟨b,off+2,none⟩))) w:=by
 unfold execOp;simp only[ho,hx];simp[go_sem]
theorem lT{ad:Addr}{v:Value}(ho:o.op= .load 73 x)(hx:a.eval x= .pointer (some ad))(hc:w.cell? ad=some v):(execOp a.eval o).run prog w= .ok (.value v) w:=by
 unfold execOp;simp only[ho,hx];simp[go_sem,hc]
theorem abX{g:Nat}{i:Int}{d0:Value}(ho:o.op= .store 3 x y)(hx:a.eval x= .pointer (some ⟨g,0,none⟩))(hy:a.eval y= .int .i64 i)(hB:aO w g 3 #[d0]):
  ∃w',(execOp a.eval o).run prog w= .ok .skip w'/\aO w' g 3 #[.int .i64 i]/\Fr (λk=>k=g) w w':=by
 have k0:=hB.cell 0;have f0:=hB.frozen 0;refine⟨_, ?_,hB.dO 0 (.int .i64 i),Fr.dO (S:=λk=>k=g) rfl _⟩;unfold execOp;simp only[ho,hx,hy];simp[go_sem,k0,f0]
end
theorem UZ(n:TN)(w:World):Sem.run prog (Instr.field 124 (pY n) 3) w= .ok (.int .i64 n.count) w:=by
 simp[go_sem,Instr.field,asAgg]
abbrev abY (i:Int):Array Value:= #[.int .i64 i]
def abZ(S:St)(k:Tok):St:=λj=>if j=k then none else S j
section
variable {F:Nat->Prop}{B u0 q m:Nat}{T:List bT->Nat->World->Prop}{S:St}{w w':World}
theorem amX(K:Kv F B u0 T)(h:aZ B u0 q T S m w){k:Tok}(hk:k=dn\/∃n,S k=some n):Calls prog 67 #[.pointer (some ⟨q,0,none⟩),aG k] w λe w'=>e= .returned (pY (gv S k))/\aZ B u0 q T S m w'/\Fr F w w':=by
 by_cases e:k=dn
 ·subst e;have:gv S dn=TN.zero:=if_pos rfl;rw[this];exact QZ K h
 ·obtain⟨n,hn⟩:=hk.resolve_left e;have:gv S k=n:=by unfold gv;rw[if_neg e,hn];rfl
  rw[this];exact rX K h hn
theorem akA(h:aZ B u0 q T S m w)(k:Tok):(gv S k).count<4294967296:=by
 unfold gv;split
 ·decide
 ·cases e:S k with
  |none=>decide
  |some n=>exact(h.ok _ _ e).2.count
theorem aiW(K:Kv F B u0 T)(h:aZ B u0 q T S m w){k:Tok}(hk:yR k):Calls prog 98 #[.pointer (some ⟨u0,0,none⟩), .string (tkey k)] w λe w'=>e= .returned (.tuple #[.bool (S k).isSome, .int .i64 0])/\aZ B u0 q T (abZ S k) m w'/\Fr F w w':=by
 obtain⟨h1,h2,es,h3,h4⟩:=h;refine(K.del (tkey k) h3).mono ?_;rintro e w' ⟨rfl,h5,h6⟩;refine⟨?_,⟨h6.blk h1 λhF=>by have:=K.low q hF;omega,h2,_,h5,aiF h4 hk⟩,h6⟩;rw[QW h4 hk]
 cases S k<;>rfl
end
abbrev Bx:=Nat × TypeId × Array Value
structure Sx(F:Nat->Prop)(B u0 q:Nat)(T:List bT->Nat->World->Prop)(w0:World)(S:St)(m:Nat)(W:World)(bs:List Bx):Prop where
 st:aZ B u0 q T S m W
 fr:Fr F w0 W
 lo:B<=w0.heap.size
 ql:q<w0.heap.size
 b:∀g ty cs,(g,ty,cs)∈bs->w0.heap.size<=g/\aO W g ty cs
 nd:(bs.map (·.1)).Nodup
section
variable {F:Nat->Prop}{B u0 q m m':Nat}{T:List bT->Nat->World->Prop}{S S':St}{w w0 W W':World}{bs:List Bx}{g:Nat}{ty:TypeId}{cs cs':Array Value}
theorem Sx.start(h:aZ B u0 q T S m w):Sx F B u0 q T w S m w []:=
 ⟨h,aX,acN h.hq (Nat.le_of_lt h.self.lt),h.self.lt,λ_ _ _ h=>absurd h aaj,List.nodup_nil⟩
theorem Sx.new(K:Kv F B u0 T)(X:Sx F B u0 q T w0 S m W bs)(ty:TypeId)(cs:Array Value):Sx F B u0 q T w0 S m (W.alloc (.cells cs ty)) ((W.heap.size,ty,cs)::bs):=by
 have hb:=(aai W.heap.size W).alloc aK (.cells cs ty);refine⟨X.st.below K hb,X.fr.then_ hb,X.lo,X.ql,λg ty' cs' h=> ?_, ?_⟩
 ·rcases aah.1 h with e | h
  ·injection e with e1 e2;injection e2 with e2 e3;subst e1 e2 e3;exact⟨X.fr.size,aO.new _ _ _⟩
  ·obtain⟨h1,h2⟩:=X.b _ _ _ h;exact⟨h1,h2.alloc _⟩
 ·rw[acX,acZ];refine⟨λh=> ?_,X.nd⟩;obtain⟨⟨g,ty',cs'⟩,h1,e⟩:=List.mem_map.1 h;have:=(X.b _ _ _ h1).2.lt;simp only at e;omega
theorem Sx.call(K:Kv F B u0 T)(X:Sx F B u0 q T w0 S m W bs)(hs:aZ B u0 q T S' m' W')(hf:Fr F W W'):Sx F B u0 q T w0 S' m' W' bs:=
 ⟨hs,X.fr.trans hf,X.lo,X.ql,λg ty cs h=>by
  obtain⟨h1,h2⟩:=X.b _ _ _ h
  exact⟨h1,hf.blk h2 λa=>by have:=K.low g a;have:=X.lo;omega⟩,X.nd⟩
theorem Sx.low(K:Kv F B u0 T)(X:Sx F B u0 q T w0 S m W bs)(hb:Below W.heap.size W W'):Sx F B u0 q T w0 S m W' bs:=X.call K (X.st.below K hb) (.of_below hb)
theorem Sx.reg(K:Kv F B u0 T)(X:Sx F B u0 q T w0 S m W bs)(hs:aZ B u0 q T S' m' W')(hf:Fr (λk=>F k\/k∈([]:List Nat)) W W'):Sx F B u0 q T w0 S' m' W' bs:=
 X.call K hs (hf.more λ_ h=>h.elim id λh=>absurd h aaj)
theorem Sx.tail{x:Bx}(X:Sx F B u0 q T w0 S m W (x::bs)):Sx F B u0 q T w0 S m W bs:=
 ⟨X.st,X.fr,X.lo,X.ql,λg ty cs h=>X.b g ty cs (acF _ h),by have:=X.nd;rw[acX,acZ]at this;exact this.2⟩
theorem Sx.at_(X:Sx F B u0 q T w0 S m W bs)(i:Nat)(hx:bs[i]? =some (g,ty,cs):=by exact rfl):aO W g ty cs:=(X.b _ _ _ (agl hx)).2
theorem Sx.put(K:Kv F B u0 T)(X:Sx F B u0 q T w0 S m W bs)(i:Nat)(hf:Fr (λk=>k=g) W W')(hB:aO W' g ty cs')(hx:bs[i]? =some (g,ty,cs):=by exact rfl)(h1:ty≠102:=by decide)(h2:ty≠106:=by decide)(h3:ty≠108:=by decide)(h4:ty≠120:=by decide):Sx F B u0 q T w0 S m W' (bs.set i (g,ty,cs')):=by
 obtain⟨k1,k2⟩:=X.b _ _ _ (agl hx);refine⟨X.st.far K k2 (by have:=X.ql;omega) hf h1 h2 h3 h4,X.fr.newer hf k1,X.lo,X.ql,λg' ty' cs2 h=> ?_, ?_⟩
 ·obtain⟨j,hj⟩:=List.mem_iff_getElem?.1 h;rw[List.getElem?_set]at hj;by_cases e:i=j
  ·subst e;rw[if_pos rfl]at hj;split at hj
   ·injection hj with hj;injection hj with e1 e2;injection e2 with e2 e3;subst e1 e2 e3;exact⟨k1,hB⟩
   ·cases hj
  ·rw[if_neg e]at hj;obtain⟨h5,h6⟩:=X.b _ _ _ (agl hj);refine⟨h5,hf.blk h6 λe2=>e ?_⟩;subst e2;have n:=X.nd;have a1:(bs.map (·.1))[i]? =some g':=by rw[ajZ,hx];rfl
   have a2:(bs.map (·.1))[j]? =some g':=by rw[ajZ,hj];rfl
   have hi:i<(bs.map (·.1)).length:=(ajS.1 a1).1;exact(List.getElem?_inj hi n).1 (a1.trans a2.symm)
 ·have e:(bs.set i (g,ty,cs')).map (·.1)=bs.map (·.1):=by
   rw[List.map_set];show(bs.map (·.1)).set i g=_;have a1:(bs.map (·.1))[i]? =some g:=by rw[ajZ,hx];rfl
   obtain⟨hi,e⟩:=ajS.1 a1;rw[<-e,List.set_getElem_self]
  rw[e];exact X.nd
theorem Sx.jg(K:Kv F B u0 T)(X:Sx F B u0 q T w0 S m W bs)(i:Nat)(p:Tok){d0 d1:Value}(hx:bs[i]? =some (g,71, #[d0,d1]):=by exact rfl):Sx F B u0 q T w0 S m ((W.setCell ⟨g,0,none⟩ (.int .i64 p.1)).setCell ⟨g,1,none⟩ (.int .i64 p.2)) (bs.set i (g,71,aI p)):=
 X.put K i jM (nD (X.at_ i hx)) hx
theorem Sx.awv(K:Kv F B u0 T)(X:Sx F B u0 q T w0 S m W bs)(i:Nat){d0 d1 d2 d3 d4 d5 d6 d7 v0 v1 v2 v3 v4 v5 v6 v7:Value}(hx:bs[i]? =some (g,124, #[d0,d1,d2,d3,d4,d5,d6,d7]):=by exact rfl):Sx F B u0 q T w0 S m ((((((((W.setCell ⟨g,0,none⟩ v0).setCell ⟨g,1,none⟩ v1).setCell ⟨g,2,none⟩ v2).setCell ⟨g,3,none⟩ v3).setCell ⟨g,4,none⟩ v4).setCell ⟨g,5,none⟩ v5).setCell ⟨g,6,none⟩ v6).setCell ⟨g,7,none⟩ v7) (bs.set i (g,124, #[v0,v1,v2,v3,v4,v5,v6,v7])):=
 X.put K i mJ (oW (X.at_ i hx)) hx
theorem Sx.arh(K:Kv F B u0 T)(X:Sx F B u0 q T w0 S m W bs)(i:Nat)(n:TN){n':TN}(hx:bs[i]? =some (g,124,fO n'):=by exact rfl):Sx F B u0 q T w0 S m ((((((((W.setCell ⟨g,0,none⟩ (.int .i64 n.up.1)).setCell ⟨g,1,none⟩ (.int .i64 n.up.2)).setCell ⟨g,2,none⟩ (.int .i64 n.left.1)).setCell ⟨g,3,none⟩ (.int .i64 n.left.2)).setCell ⟨g,4,none⟩ (.int .i64 n.right.1)).setCell ⟨g,5,none⟩ (.int .i64 n.right.2)).setCell ⟨g,6,none⟩ (.int .i64 n.count)).setCell ⟨g,7,none⟩ (.int .i64 n.height)) (bs.set i (g,124,fO n)):=X.awv K i hx
theorem Sx.tn(X:Sx F B u0 q T w0 S m W bs)(i:Nat){n:TN}(hx:bs[i]? =some (g,124,fO n):=by exact rfl):(W.cell? ⟨g,0,none⟩=some (.int .i64 n.up.1)/\W.cell? ⟨g,1,none⟩=some (.int .i64 n.up.2)/\W.cell? ⟨g,2,none⟩=some (.int .i64 n.left.1)/\W.cell? ⟨g,3,none⟩=some (.int .i64 n.left.2)/\W.cell? ⟨g,4,none⟩=some (.int .i64 n.right.1)/\W.cell? ⟨g,5,none⟩=some (.int .i64 n.right.2)/\W.cell? ⟨g,6,none⟩=some (.int .i64 n.count)/\W.cell? ⟨g,7,none⟩=some (.int .i64 n.height))/\g<W.heap.size:=
 have h:=X.at_ i hx
 ⟨⟨h.cell 0,h.cell 1,h.cell 2,h.cell 3,h.cell 4,h.cell 5,h.cell 6,h.cell 7⟩,h.lt⟩
theorem Sx.tok(X:Sx F B u0 q T w0 S m W bs)(i:Nat){k:Tok}(hx:bs[i]? =some (g,71,aI k):=by exact rfl):W.cell? ⟨g,0,none⟩=some (.int .i64 k.1)/\W.cell? ⟨g,1,none⟩=some (.int .i64 k.2)/\g<W.heap.size:=
 have h:=X.at_ i hx
 ⟨h.cell 0,h.cell 1,h.lt⟩
theorem Sx.err(X:Sx F B u0 q T w0 S m W bs):W.cell? ⟨q,0,none⟩=some (.pointer (some ⟨u0,0,none⟩))/\W.cell? ⟨q,1,none⟩=some (.int .i64 0)/\q<W.heap.size:=
 ⟨X.st.self.cell 0,X.st.self.cell 1,X.st.self.lt⟩
end
section
variable {F:Nat->Prop}{B u0 q m:Nat}{T:List bT->Nat->World->Prop}{S:St}{w w':World}
theorem Zw(K:Kv F B u0 T)(h:aZ B u0 q T S m w){g c:Nat}{k:Tok}(hv:yR k)(hB:aO w g 71 (aI k))(hg:B<=g)(hk:S k=none):Calls prog 63 #[.pointer (some ⟨q,0,none⟩), .slice (some ⟨g,0,none⟩) 1 c] w λe w'=>e= .returned (.int .i64 181)/\aZ B u0 q T S m w'/\Fr F w w':=by
 refine(wQ K h (l:= [k]) hB hg aH).mono ?_;rintro e w' ⟨r,rfl,hr,h1,h2⟩;rcases hr with⟨_,x,hx,hn⟩ | ⟨rfl,_⟩ | ⟨_,hx⟩
 ·rw[acI]at hx;subst hx;exact absurd hv hn
 ·exact⟨rfl,h1,h2⟩
 ·obtain⟨n,hn⟩:=hx k aH;rw[hk]at hn;cases hn
theorem aiX(K:Kv F B u0 T)(h:aZ B u0 q T S (m+1) w){k:Tok}(hv:yR k)(hk:S k=none):Calls prog 40 #[.pointer (some ⟨q,0,none⟩),aG k] w λe w'=>e= .returned (.int .i64 0)/\aZ B u0 q T (upd S k (nd dn .nil .nil)) m w'/\Fr F w w':=by
 have ari:=λW (hW:aZ B u0 q T S (m+1) W)=>UR (l:= .nil) (r:= .nil) K (m:=m) (by rw[show dS S k=1 by unfold dS;rw[hk];rfl];exact hW) (Ji S) (Ji S) (by simp[Bt.list]) hv (by simp[Bt.cnt]);have arj:Hid (∀W,aZ B u0 q T S (m+1) W->Calls prog 74 #[.pointer (some ⟨q,0,none⟩),aG k,aG dn,aG dn] W λe w'=>e= .returned (aG k)/\aZ B u0 q T (upd S k (nd dn .nil .nil)) m w'/\Fr F W w'):=ah ari;have x2:=((Sx.start (F:=F) h).new K 71 (aI k)).new K 71 (aI k);have hb:=x2.at_ 0;rw[aad]at hb;have yx:=ah (Zw K x2.st (c:=1) hv hb (by have:=x2.lo;omega) hk);have yX:=ah x2;have zX:=x2.lo;have hql:=x2.ql;have HK:=ah K;have aQ:Hid (∀k,F k->k<B):=ah K.low;clear ari x2 hb h K hk hv;go_enter func40,ntmps40
 go_wp2_with fail
 refine aac yx ?_;rintro e w1 ⟨rfl,jr,eH⟩;have x3:=yX.out.call HK jr eH;have BD:=ah x3;have vg:=x3.at_ 1;have Jt:=ah vg;have hlt:=vg.lt;have nI:=ah jr;clear jr eH x3 vg yX yx;go_wp2_with fail
 refine aP (λu=>⟨#[_,_,_,_,_,_,_,_,_,_,_,_,_,_,_,_,u 0,u 1,u 2,u 3,u 4,_,_,_,_],_⟩)
  [bf q 0,
   aF (aG (k)),
   aF (aG (dn)),
   aF (aG (dn)),
   aF (aG (k))]
  F [2,3,4] (λj W=>dG B u0 q T (match j with | 3=>m | _=>m+1) (λS1=>match j with | 3=>S1=upd S k (nd dn .nil .nil) | _=>S1=S) W) aV aV [] rfl aH (by simp<;>omega) (λk hk=>⟨by have:=aQ.out k hk;omega,by simp⟩) ⟨λ_=>undef,rfl⟩ (⟨S,nI.out.below HK aU.drew,rfl⟩) ?_ ?_ ?_
 ·intro i o hi ho u W hf hold aj jP;have aW:=fw aQ hf Jt
  match i,ho with
  |0,ho=>exact sv ho (bg rfl rfl)
  |1,ho=>exact sv ho (aC rfl rfl (aW.cell 0) (aW.cell 1))
  |2,ho|3,ho|4,ho=>
   exact absurd aH hi
  |n+5,ho=>exact absurd ho aH
 ·intro t i o ht ho u W hf bG aj;have aW:=fw aQ hf Jt
  match t,ht with
  |0,ht|1,ht=>
   have ht:=aA ht;subst ht;obtain rfl:=aA ho;refine⟨aB rfl,Does.call (fV dP rfl ) ?_⟩;obtain⟨S1,hs,hp⟩:=bG;refine aac (dX W) ?_;rintro e w' ⟨rfl,hb⟩;exact⟨_,rfl,rfl,rfl, .of_below hb,S1,hs.below HK hb,hp⟩
  |2,ht=>
   have ht:=aA ht;subst ht;obtain rfl:=aA ho;refine⟨aB rfl,Does.call (fU o8 rfl (aj 0 rfl) (aj 1 rfl) (aj 2 rfl) (aj 3 rfl)) ?_⟩;obtain⟨S1,hs,hp⟩:dG B u0 q T (m+1) (λS1=>S1=S) W:=bG;refine aac (arj.out W (hp ▸ hs)) ?_;rintro e w' ⟨rfl,h1,h2⟩;exact⟨_,rfl,rfl,rfl,h2,_,h1,rfl⟩
  |n+3,ht=>exact absurd ht aH
 ·intro u W hf bG au;have aW:=fw aQ hf Jt;have e0:=au.q 0;have e1:=au.q 1;have e2:=au.q 2;have e3:=au.q 3;have e4:=au.q 4;simp only[e0,e1,e2,e3,e4];obtain⟨S1,hs,hp⟩:dG B u0 q T m (λS1=>S1=upd S k (nd dn .nil .nil)) W:=bG;have X4:=ah (BD.out.reg HK (show aZ B u0 q T (upd S k (nd dn .nil .nil)) m W from hp ▸ hs) hf);obtain⟨_,q1,ql⟩:=X4.out.err;clear au hf hs hp aW e0 e1 e2 e3 e4 arj BD nI Jt;go_wp2;go_ret;exact⟨rfl,X4.out.st,X4.out.fr⟩
theorem ab1(K:Kv F B u0 T)(h:aZ B u0 q T S m w){k:Tok}{n:TN}(hk:S k=some n)(hc:n.count=1)(hu:n.up=dn):Calls prog 71 #[.pointer (some ⟨q,0,none⟩),aG k] w λe w'=>e= .returned (.int .i64 0)/\aZ B u0 q T (abZ S k) m w'/\Fr F w w':=by
 have hv:=(h.ok _ _ hk).1
 have aww:Hid (∀W,aZ B u0 q T S m W->Calls prog 98 #[.pointer (some ⟨u0,0,none⟩), .string (tkey k)] W λe w'=>e= .returned (.tuple #[.bool true, .int .i64 0])/\aZ B u0 q T (abZ S k) m w'/\Fr F W w'):=ah λW hW=>by
  have:=aiW K hW hv
  rwa [hk]at this
 have VL:=ah (λW=>Eh k (yH.fits (.inl hv)) W);have HG:=ah (λW (hW:aZ B u0 q T S m W)=>rX K hW hk);have x2:=((Sx.start (F:=F) h).new K 71 (aI k)).new K 71 (aI k);have hb:=x2.at_ 0;rw[aad]at hb;have yx:=ah (Q7 K x2.st (c:=1) hb (by have:=x2.lo;omega) hk);have yX:=ah x2;have zX:=x2.lo;have hql:=x2.ql;have rF:=h.hq;have HK:=ah K;have HC:Hid ((n.count:Int)=1):=ah (by rw[hc];rfl);have HU:=ah hu;have aQ:Hid (∀k,F k->k<B):=ah K.low;clear x2 hb h K hk hv hc hu;go_enter func71,ntmps71
 go_wp2_with fail
 refine aac yx ?_;rintro e w1 ⟨rfl,jr,eH⟩;have x3:=yX.out.call HK jr eH;obtain⟨c0,c1,lk⟩:=x3.tok 1;have BD:=ah x3;have HG1:=ah (HG.out _ jr);clear jr eH x3 yX yx HG;go_wp2_with fail
 refine aac HG1 ?_;rintro e w2 ⟨rfl,mW,yK⟩;have x4:=BD.out.call HK mW yK;obtain⟨_,q1,ql⟩:=x4.err;have yj:=x4.fr.size;have x5:=x4.new HK 124 (fO n);have vV:=ah x5;have PV:=x5.fr.size;have Dt:=ah (x5.at_ 0);have lG:=ah x5.st;obtain⟨w4,vU⟩:=aJ (w2.alloc (.cells (fO n) 124));rw[<-vU]at vV Dt lG PV;clear mW yK x4 x5 BD HG1 c0 c1 lk;go_wp2_with fail
 rw[show w2.alloc (.cells #[.int .i64 n.up.1, .int .i64 n.up.2, .int .i64 n.left.1, .int .i64 n.left.2, .int .i64 n.right.1, .int .i64 n.right.2, .int .i64 n.count, .int .i64 n.height] 124)=w4 from vU.symm]
 refine aP (λu=>⟨#[_,_,_,_,_,_,_,_,_,_,_,_,_,_,_,_,_,_,_,_,_,_,_,_,_,_,_,_,_,u 9,u 0,u 1,u 2,u 3,u 4,u 5,u 6,u 7,u 8,_,_,_,_,_,_,_,_,_,_,_],_⟩)
  [bf w2.heap.size 6,
   aF (.int .i64 ((n).count)),
   aF (.bool (false)),
   aF (.bool (false)),
   bf w2.heap.size 0,
   aF (aG ((n).up)),
   aF (aG (dn)),
   aF (.bool (false)),
   aF (.bool (false)),
   aF (.bool (false))]
  F [6] (λj W=>dG B u0 q T (m) (λS1=>S1=S) W) aV aV [] rfl aH (by simp<;>omega) (λk hk=>⟨by have:=aQ.out k hk;omega,by simp⟩) ⟨λ_=>undef,rfl⟩ (⟨S,lG.out.below HK aU.drew,rfl⟩) ?_ ?_ ?_
 ·intro i o hi ho u W hf hold aj jP;have aW:=fw aQ hf Dt
  match i,ho with
  |0,ho=>exact sv ho (F7 rfl rfl)
  |1,ho=>exact sv ho (jS rfl (aj 0 rfl) (aW.cell 6))
  |2,ho=>exact sv ho (aiV rfl (aj 1 rfl) rfl) (hp:=(by show Value.bool _=_;rw[HC.out];rfl))
  |3,ho=>exact sv ho (bg rfl (aj 2 rfl))
  |4,ho=>
   obtain rfl:=aA ho;exact aY.nS ((bI rfl (aT (v:=u 3) rfl (aj 3 rfl))).trans rfl) (sQ rfl rfl) rfl rfl rfl
  |5,ho=>
   obtain rfl:=aA ho;exact aY.nS ((bI rfl (aT (v:=u 3) rfl (aj 3 rfl))).trans rfl) (aC rfl (aj 4 rfl) (aW.cell 0) (aW.cell 1)) rfl rfl rfl
  |6,ho=>
   exact absurd aH hi
  |7,ho=>
   obtain rfl:=aA ho;exact aY.nS ((bI rfl (aT (v:=u 3) rfl (aj 3 rfl))).trans rfl) (kH rfl (aj 5 rfl) (aj 6 rfl)) rfl (by show Value.bool (!decide _)=_;rw[decide_eq_true HU.out];rfl) rfl
  |8,ho=>exact sv ho (mM rfl (aj 3 rfl) (aj 7 rfl))
  |9,ho=>exact sv ho (jo rfl (aj 8 rfl))
  |n+10,ho=>exact absurd ho aH
 ·intro t i o ht ho u W hf bG aj;have aW:=fw aQ hf Dt
  match t,ht with
  |0,ht=>
   have ht:=aA ht;subst ht;obtain rfl:=aA ho;refine⟨((bI rfl (aT (v:=u 3) rfl (aj 3 rfl))).trans rfl),Does.call (fV dP rfl ) ?_⟩;obtain⟨S1,hs,hp⟩:=bG;refine aac (dX W) ?_;rintro e w' ⟨rfl,hb⟩;exact⟨_,rfl,rfl,rfl, .of_below hb,S1,hs.below HK hb,hp⟩
  |n+1,ht=>exact absurd ht aH
 ·intro u W hf bG au;have aW:=fw aQ hf Dt;have e0:=au.q 0;have e1:=au.q 1;have e2:=au.q 2;have e3:=au.q 3;have e4:=au.q 4;have e5:=au.q 5;have e6:=au.q 6;have e7:=au.q 7;have e8:=au.q 8;have e9:=au.q 9;simp only[e0,e1,e2,e3,e4,e5,e6,e7,e8,e9];obtain⟨S1,hs,hp⟩:dG B u0 q T m (λS1=>S1=S) W:=bG;have x6:=vV.out.reg HK (show aZ B u0 q T S m W from hp ▸ hs) hf;obtain⟨w5,oI⟩:=aJ (W);rw[<-oI]at x6 ⊢;have yA:=ah x6;have lH:=ah (x6.at_ 2);have HQ5:=ah x6.st.self;have yS:=ah x6.st;have PV:=x6.fr.size;have lk:=(x6.at_ 2).lt;have lq:=x6.err.2.2;clear au hf hs hp aW e0 e1 e2 e3 e4 e5 e6 e7 e8 e9 x6 vV lG Dt oI u W;go_wp2_with fail
  refine aP (λu=>⟨#[_,_,_,_,_,_,_,u 10,u 11,_,_,_,_,_,_,_,_,_,_,_,_,_,_,_,_,_,_,_,_,_,_,_,_,_,_,_,_,_,_,u 7,u 0,u 1,u 2,u 3,u 4,u 5,u 6,u 8,u 9,_],_⟩)
   [bf q 0,
    bf q 0,
    bf q 0,
    bf u0 0,
    aF (aG (k)),
    aF (.string (tkey k)),
    aF (.tuple #[.bool (true), .int .i64 (0)]),
    aF (.tuple #[.bool (true), .int .i64 (0)]),
    aF (.bool (true)),
    aF (.int .i64 (0)),
    aF (.bool (true)),
    aF (.int .i64 (0))]
   F [5,6] (λj W=>dG B u0 q T (m) (λS1=>match j with | 2=>S1=abZ S k | _=>S1=S) W) aV aV [] rfl aH (by simp<;>omega) (λk hk=>⟨by have:=aQ.out k hk;omega,by simp⟩) ⟨λ_=>undef,rfl⟩ (⟨S,yS.out.below HK aU.drew,rfl⟩) ?_ ?_ ?_
  ·intro i o hi ho u W hf hold aj jP;have aW:=fw aQ hf lH;have dI:=fw aQ hf HQ5
   match i,ho with
   |0,ho=>exact sv ho (bg rfl rfl)
   |1,ho=>exact sv ho (jK rfl (aj 0 rfl))
   |2,ho=>exact sv ho (xU rfl (aj 1 rfl))
   |3,ho=>exact sv ho (xW rfl (aj 2 rfl) (dI.cell 0))
   |4,ho=>exact sv ho (aC rfl rfl (aW.cell 0) (aW.cell 1))
   |5,ho|6,ho=>
    exact absurd aH hi
   |7,ho=>exact sv ho (bg rfl (aj 6 rfl))
   |8,ho=>exact sv ho (rQ rfl (aj 7 rfl))
   |9,ho=>exact sv ho (rU rfl (aj 7 rfl))
   |10,ho=>exact sv ho (jo rfl (aj 8 rfl))
   |11,ho=>exact sv ho (jo rfl (aj 9 rfl))
   |n+12,ho=>exact absurd ho aH
  ·intro t i o ht ho u W hf bG aj;have aW:=fw aQ hf lH;have dI:=fw aQ hf HQ5
   match t,ht with
   |0,ht=>
    have ht:=aA ht;subst ht;obtain rfl:=aA ho;refine⟨aB rfl,Does.call (dH Jj rfl (aj 4 rfl)) ?_⟩;obtain⟨S1,hs,hp⟩:=bG;refine aac (VL.out W) ?_;rintro e w' ⟨rfl,hb⟩;exact⟨_,rfl,rfl,rfl, .of_below hb,S1,hs.below HK hb,hp⟩
   |1,ht=>
    have ht:=aA ht;subst ht;obtain rfl:=aA ho;refine⟨aB rfl,Does.call (bV afs rfl (aj 3 rfl) (aj 5 rfl)) ?_⟩;obtain⟨S1,hs,hp⟩:dG B u0 q T (m) (λS1=>S1=S) W:=bG;refine aac (aww.out W (hp ▸ hs)) ?_;rintro e w' ⟨rfl,h1,h2⟩;exact⟨_,rfl,rfl,rfl,h2,_,h1,rfl⟩
   |n+2,ht=>exact absurd ht aH
  ·intro u W hf bG au;have aW:=fw aQ hf lH;have dI:=fw aQ hf HQ5;have e0:=au.q 0;have e1:=au.q 1;have e2:=au.q 2;have e3:=au.q 3;have e4:=au.q 4;have e5:=au.q 5;have e6:=au.q 6;have e7:=au.q 7;have e8:=au.q 8;have e9:=au.q 9;have e10:=au.q 10;have e11:=au.q 11;simp only[e0,e1,e2,e3,e4,e5,e6,e7,e8,e9,e10,e11];obtain⟨S1,hs,hp⟩:dG B u0 q T m (λS1=>S1=abZ S k) W:=bG;have X7:=ah (yA.out.reg HK (show aZ B u0 q T (abZ S k) m W from hp ▸ hs) hf);clear au hf hs hp aW dI e0 e1 e2 e3 e4 e5 e6 e7 e8 e9 e10 e11 yA yS lH HQ5;go_wp2;go_ret;exact⟨rfl,X7.out.st,X7.out.fr⟩
end
section
variable {F:Nat->Prop}{B u0 q m:Nat}{T:List bT->Nat->World->Prop}{S:St}{w w':World}
theorem Q9{n:TN}{fr:Tok}{r lc:Nat}{b1 b2:Bool}(h:lc=(gv S n.left).count)(h1:(decide (fr=dn)||decide (fr=n.right))=b1)(h2:(!decide (fr=dn)&&decide (fr=n.right))=b2){z:Int}(hz:z=((r+(if b1 then lc else 0)+(if b2 then 1 else 0):Nat):Int)):z=((r+YK S n fr:Nat):Int):=by
 rw[hz]
 congr 1
 unfold YK;subst h h1 h2;by_cases e1:fr=dn<;>by_cases e2:fr=n.right<;>simp[e1,e2]<;>omega
theorem ab2(K:Kv F B u0 T)(h:aZ B u0 q T S m w){k fr:Tok}{n:TN}{g gs r:Nat}(hg:aO w g 3 (abY (r:Nat)))(hgs:aO w gs 73 #[.pointer (some ⟨q,0,none⟩)])(hqg:q<g)(hqs:q<gs)(dL:gs≠g)(hl:n.left=dn\/∃n',S n.left=some n')(hr:r<=2000000000000):
  Calls prog 65 #[aG k,pY n,aG fr, .pointer (some ⟨g,0,none⟩), .pointer (some ⟨gs,0,none⟩)] w λe w'=>e= .returned (.tuple #[])/\∃z:Int,z=((r+YK S n fr:Nat):Int)/\aZ B u0 q T S m w'/\Fr (λk=>F k\/k=g) w w'/\aO w' g 3 (abY z)/\aO w' gs 73 #[.pointer (some ⟨q,0,none⟩)]:=by
 have Gv:=akA h n.left;have wP:=ah (λW (hW:aZ B u0 q T S m W)=>amX K hW hl);obtain⟨lv,hlv⟩:=aJ (gv S n.left);rw[<-hlv]at Gv wP;have HRK:Hid (lv.count=(gv S n.left).count):=ah (by rw[hlv]);have x3:=(((Sx.start (F:=F) h).new K 71 (aI k)).new K 124 (fO n)).new K 71 (aI fr);have hn3:=x3.at_ 1;have nP:=x3.at_ 0;rw[aad]at hn3;rw[aad,aad]at nP;have hb:=(((aai w.heap.size w).alloc aK (.cells (aI k) 71)).alloc (by rw[aad];omega) (.cells (fO n) 124)).alloc (by rw[aad,aad];omega) (.cells (aI fr) 71);have HN3:=ah hn3;have sD:=ah nP;have BD:=ah x3;have ZY:=ah x3.st;have Oi:=ah (((hg.alloc (.cells (aI k) 71)).alloc (.cells (fO n) 124)).alloc (.cells (aI fr) 71));have HQ3:=ah (((hgs.alloc (.cells (aI k) 71)).alloc (.cells (fO n) 124)).alloc (.cells (aI fr) 71));have AV:Hid (Fr (λk=>F k\/k=g) w _):=ah (Fr.of_below hb);have zX:=x3.lo;have rF:=h.hq;have BP:=hg.lt;have hql:=hgs.lt;have HK:=ah K;have aQ:Hid (∀k,F k->k<B):=ah K.low;obtain⟨w3,Xu⟩:=aJ (((w.alloc (.cells (aI k) 71)).alloc (.cells (fO n) 124)).alloc (.cells (aI fr) 71));have IZ:=x3.fr.size;rw[<-Xu]at HN3 sD BD ZY Oi HQ3 AV IZ;clear x3 hn3 nP hb hg hgs h K hl hlv;go_enter func65,ntmps65
 go_wp2_with fail
 rw[show((w.alloc (.cells #[.int .i64 k.1, .int .i64 k.2] 71)).alloc (.cells #[.int .i64 n.up.1, .int .i64 n.up.2, .int .i64 n.left.1, .int .i64 n.left.2, .int .i64 n.right.1, .int .i64 n.right.2, .int .i64 n.count, .int .i64 n.height] 124)).alloc (.cells #[.int .i64 fr.1, .int .i64 fr.2] 71)=w3 from Xu.symm]
 refine aP (λu=>⟨#[_,_,_,_,_,_,_,_,u 0,u 1,u 2,u 3,u 4,u 5,u 6,u 7,u 8,_,_,_,_,_,_,_,_,_,_,_,_,_,_,_,_,_,_],_⟩)
  [aF (aG (fr)),
   aF (aG (dn)),
   aF (.bool (decide (fr=dn))),
   aF (.bool (decide (fr=dn))),
   Fl.gd _ (decide (fr=dn)) false (aG (fr)),
   Fl.gd _ (decide (fr=dn)) false (.pointer (some ⟨w.heap.size+1,4,none⟩)),
   Fl.gd _ (decide (fr=dn)) false (aG ((n).right)),
   Fl.gd _ (decide (fr=dn)) false (.bool (decide (fr=(n).right))),
   aF (.bool ((decide (fr=dn))||(decide (fr=(n).right))))]
  F [1] (λj W=>dG B u0 q T (m) (λS1=>S1=S) W) aV aV [] rfl aH (by simp<;>omega) (λk hk=>⟨by have:=aQ.out k hk;omega,by simp⟩) ⟨λ_=>undef,rfl⟩ (⟨S,ZY.out.below HK aU.drew,rfl⟩) ?_ ?_ ?_
 ·intro i o hi ho u W hf hold aj jP;have aW:=fw aQ hf HN3;have dI:=fw aQ hf sD
  match i,ho with
  |0,ho=>exact sv ho (aC rfl rfl (dI.cell 0) (dI.cell 1))
  |1,ho=>
   exact absurd aH hi
  |2,ho=>exact sv ho (iI rfl (aj 0 rfl) (aj 1 rfl))
  |3,ho=>exact sv ho (bg rfl (aj 2 rfl))
  |4,ho=>exact svg ho (aT (v:=u 3) rfl (aj 3 rfl)) (λhb=>aC rfl rfl (dI.cell 0) (dI.cell 1))
  |5,ho=>exact svg ho (aT (v:=u 3) rfl (aj 3 rfl)) (λhb=>fP rfl rfl)
  |6,ho=>exact svg ho (aT (v:=u 3) rfl (aj 3 rfl)) (λhb=>aC rfl (aj 5 rfl hb) (aW.cell 4) (aW.cell 5))
  |7,ho=>exact svg ho (aT (v:=u 3) rfl (aj 3 rfl)) (λhb=>iI rfl (aj 4 rfl hb) (aj 6 rfl hb))
  |8,ho=>exact sv ho (arf rfl (aj 3 rfl) rfl (λhb=>(aj 7 rfl hb)))
  |n+9,ho=>exact absurd ho aH
 ·intro t i o ht ho u W hf bG aj;have aW:=fw aQ hf HN3;have dI:=fw aQ hf sD
  match t,ht with
  |0,ht=>
   have ht:=aA ht;subst ht;obtain rfl:=aA ho;refine⟨aB rfl,Does.call (fV dP rfl ) ?_⟩;obtain⟨S1,hs,hp⟩:=bG;refine aac (dX W) ?_;rintro e w' ⟨rfl,hb⟩;exact⟨_,rfl,rfl,rfl, .of_below hb,S1,hs.below HK hb,hp⟩
  |n+1,ht=>exact absurd ht aH
 ·intro u W hf bG au;have aW:=fw aQ hf HN3;have dI:=fw aQ hf sD;have e0:=au.q 0;have e1:=au.q 1;have e2:=au.q 2;have e3:=au.q 3;have e8:=au.q 8;simp only[e0,e1,e2,e3,e8];obtain⟨S1,hs,hp⟩:dG B u0 q T m (λS1=>S1=S) W:=bG;have x4:=BD.out.reg HK (show aZ B u0 q T S m W from hp ▸ hs) hf;have hn4:=hf.blk HN3 (λa=>a.elim (λa=>by have:=aQ.out _ a;omega) (λa=>by simp at a));have sW:=hf.blk sD (λa=>a.elim (λa=>by have:=aQ.out _ a;omega) (λa=>by simp at a));have hg4:=hf.blk Oi (λa=>a.elim (λa=>by have:=aQ.out _ a;omega) (λa=>by simp at a));have hq4:=hf.blk HQ3 (λa=>a.elim (λa=>by have:=aQ.out _ a;omega) (λa=>by simp at a));have qm:Fr (λk=>F k\/k=g) w W:=AV.out.trans (hf.more λk a=> .inl (a.elim id λa=>absurd a aaj));obtain⟨w4,vU⟩:=aJ (W);rw[<-vU]at x4 hn4 sW hg4 hq4 qm ⊢;have yU:=x4.fr.size;have uJ:=ah x4;have lD:=ah x4.st;have Dt:=ah hn4;have pK:=ah sW;have HG4:=ah hg4;have RN:=ah hq4;have kV:=ah qm;generalize bD:(decide (fr=dn)||decide (fr=n.right))=b1;have zZ:=ah bD;clear au hf hs hp aW dI e0 e1 e2 e3 e8 x4 hn4 sW hg4 hq4 qm vU bD W BD ZY HN3 sD Oi HQ3 AV
  cases b1 with
  |false=>
   go_wp2_with fail
   refine aP (λu=>⟨#[_,_,_,_,_,_,_,_,_,_,_,_,_,_,_,_,_,_,_,_,_,_,_,_,u 0,u 1,u 2,u 3,u 4,u 5,u 6,u 7,u 8,_,_],_⟩)
    [aF (aG (fr)),
     aF (aG (dn)),
     aF (.bool (!decide (fr=dn))),
     aF (.bool (!decide (fr=dn))),
     Fl.gd _ (!decide (fr=dn)) true (aG (fr)),
     Fl.gd _ (!decide (fr=dn)) true (.pointer (some ⟨w.heap.size+1,4,none⟩)),
     Fl.gd _ (!decide (fr=dn)) true (aG ((n).right)),
     Fl.gd _ (!decide (fr=dn)) true (.bool (decide (fr=(n).right))),
     aF (.bool ((!decide (fr=dn))&&(decide (fr=(n).right))))]
    F [1] (λj W=>dG B u0 q T (m) (λS1=>S1=S) W) aV aV [] rfl aH (by simp<;>omega) (λk hk=>⟨by have:=aQ.out k hk;omega,by simp⟩) ⟨λ_=>undef,rfl⟩ (⟨S,lD.out.below HK aU.drew,rfl⟩) ?_ ?_ ?_
   ·intro i o hi ho u W hf hold aj jP;have aW:=fw aQ hf Dt;have dI:=fw aQ hf pK
    match i,ho with
    |0,ho=>exact sv ho (aC rfl rfl (dI.cell 0) (dI.cell 1))
    |1,ho=>
     exact absurd aH hi
    |2,ho=>exact sv ho (kH rfl (aj 0 rfl) (aj 1 rfl))
    |3,ho=>exact sv ho (bg rfl (aj 2 rfl))
    |4,ho=>exact svg ho (aT (v:=u 3) rfl (aj 3 rfl)) (λhb=>aC rfl rfl (dI.cell 0) (dI.cell 1))
    |5,ho=>exact svg ho (aT (v:=u 3) rfl (aj 3 rfl)) (λhb=>fP rfl rfl)
    |6,ho=>exact svg ho (aT (v:=u 3) rfl (aj 3 rfl)) (λhb=>aC rfl (aj 5 rfl hb) (aW.cell 4) (aW.cell 5))
    |7,ho=>exact svg ho (aT (v:=u 3) rfl (aj 3 rfl)) (λhb=>iI rfl (aj 4 rfl hb) (aj 6 rfl hb))
    |8,ho=>exact sv ho (aft rfl (aj 3 rfl) (λhb=>(aj 7 rfl hb)) rfl)
    |n+9,ho=>exact absurd ho aH
   ·intro t i o ht ho u W hf bG aj;have aW:=fw aQ hf Dt;have dI:=fw aQ hf pK
    match t,ht with
    |0,ht=>
     have ht:=aA ht;subst ht;obtain rfl:=aA ho;refine⟨aB rfl,Does.call (fV dP rfl ) ?_⟩;obtain⟨S1,hs,hp⟩:=bG;refine aac (dX W) ?_;rintro e w' ⟨rfl,hb⟩;exact⟨_,rfl,rfl,rfl, .of_below hb,S1,hs.below HK hb,hp⟩
    |n+1,ht=>exact absurd ht aH
   ·intro u W hf bG au;have aW:=fw aQ hf Dt;have dI:=fw aQ hf pK;have e0:=au.q 0;have e1:=au.q 1;have e2:=au.q 2;have e3:=au.q 3;have e8:=au.q 8;simp only[e0,e1,e2,e3,e8];obtain⟨S1,hs,hp⟩:dG B u0 q T m (λS1=>S1=S) W:=bG;have x8:=uJ.out.reg HK (show aZ B u0 q T S m W from hp ▸ hs) hf;have hg8:=hf.blk HG4 (λa=>a.elim (λa=>by have:=aQ.out _ a;omega) (λa=>by simp at a));have hq8:=hf.blk RN (λa=>a.elim (λa=>by have:=aQ.out _ a;omega) (λa=>by simp at a));have MR:=ah (kV.out.trans (hf.more λk a=> .inl (a.elim id λa=>absurd a aaj)));obtain⟨w8,Iy⟩:=aJ (W);rw[<-Iy]at x8 hg8 hq8 MR ⊢;have GU:=ah x8;have HQ8:=ah hq8;have HG8:=ah hg8;have c0:w8.cell? ⟨g,0,none⟩=some (.int .i64 ((r:Nat):Int)):=hg8.cell 0;have f0:=hg8.frozen 0;have lt:=hg8.lt;have hwr:IntKind.i64.wrap (((r:Nat):Int)+1)=((r:Nat):Int)+1:=acK _ ak;generalize bK:(!decide (fr=dn)&&decide (fr=n.right))=b2;have qj:=ah bK;clear au hf hs hp aW dI e0 e1 e2 e3 e8 x8 hg8 hq8 Iy bK W uJ HG4 RN kV Dt pK
    cases b2 with
    |false=>
     go_wp2
     go_end0
     exact⟨rfl,_,Q9 HRK zZ qj aH,GU.out.st,MR,HG8,HQ8⟩
    |true=>
     go_wp2
     go_end0
     have hf9:Fr (λk=>k=g) w8 (w8.setCell ⟨g,0,none⟩ (.int .i64 ((r:Nat)+1))):=Fr.dO (S:=λk=>k=g) rfl _;exact⟨rfl,_,Q9 HRK zZ qj aH,GU.out.st.far HK HG8 ak hf9 ay ay ay ay,MR.out.trans (hf9.more λk a=> .inr a),HG8.out.dO 0 _,hf9.blk HQ8 ak⟩
  |true=>
   go_wp2_with fail
   refine BI (λu=>⟨#[_,_,_,_,_,_,_,_,_,_,_,_,_,_,_,_,_,u 0,u 1,u 2,u 3,u 4,u 5,u 6,_,_,_,_,_,_,_,_,_,_,_],_⟩)
    [aF (.int .i64 (r)),
     bf q 0,
     bf (w.heap.size+1) 2,
     aF (aG ((n).left)),
     aF (pY (lv)),
     aF (.int .i64 ((lv).count)),
     aF (.int .i64 (((r+lv.count:Nat):Int))),
     Fl.turn _ (g) 3 (abY ((((r+lv.count:Nat):Int)))) (by have:=HG4.out.lt;omega)]
    F [4] (λj W=>dG B u0 q T (m) (λS1=>S1=S) W) aV aV [g] rfl aH (by simp<;>omega) (λk hk=>⟨by have:=aQ.out k hk;omega,by have:=aQ.out k hk;simp;omega⟩) ⟨λ_=>undef,rfl⟩ (⟨S,lD.out.below HK aU.drew,rfl⟩) ?_ ?_ ?_
   ·intro i o hi ho u W hf hold aj jP jF;have aW:=fw aQ hf Dt;have fQ:=fw aQ hf RN
    match i,ho with
    |0,ho=>exact sv ho (jS rfl rfl ((show aO W _ _ _ from Eq.trans (jF 4 7 _ rfl aV) HG4).cell 0))
    |1,ho=>exact sv ho (lT rfl rfl (fQ.cell 0))
    |2,ho=>exact sv ho (gG rfl rfl)
    |3,ho=>exact sv ho (aC rfl (aj 2 rfl) (aW.cell 2) (aW.cell 3))
    |4,ho=>
     exact absurd aH hi
    |5,ho=>exact sv ho (XY rfl (aj 4 rfl))
    |6,ho=>exact sv ho (FN rfl (aj 0 rfl) (aj 5 rfl)) (hp:=(by show acS _ (IntKind.i64.wrap _)=_;rw[acK _ ak];exact congrArg (acS _) ak))
    |7,ho=>
     obtain rfl:=aA ho;have Af:aO W (g) _ _:=Eq.trans (hold _ rfl) HG4;exact aY.yD (hlt:=by omega) (abX rfl rfl (aj 6 rfl) Af) rfl rfl rfl (λ_ dK=>(λ_ h=>dG.far HK h Af ak dK ay ay ay ay))
    |n+8,ho=>exact absurd ho aH
   ·intro t i o ht ho u W hf bG aj;have aW:=fw aQ hf Dt;have fQ:=fw aQ hf RN
    match t,ht with
    |0,ht=>
     have ht:=aA ht;subst ht;obtain rfl:=aA ho;refine⟨aB rfl,Does.call (bV eU rfl (aj 1 rfl) (aj 3 rfl)) ?_⟩;obtain⟨S1,hs,hp⟩:dG B u0 q T (m) (λS1=>S1=S) W:=bG;refine aac (wP.out W (hp ▸ hs)) ?_;rintro e w' ⟨rfl,h1,h2⟩;exact⟨_,rfl,rfl,rfl,h2,_,h1,rfl⟩
    |n+1,ht=>exact absurd ht aH
   ·intro u W hf bG au;have aW:=fw aQ hf Dt;have fQ:=fw aQ hf RN;have e0:=au.q 0;have e1:=au.q 1;have e2:=au.q 2;have e3:=au.q 3;have e4:=au.q 4;have e5:=au.q 5;have e6:=au.q 6;have hT7:=(au.p 7 ay trivial);change aO W (g) _ _ at hT7;simp only[e0,e1,e2,e3,e4,e5,e6];obtain⟨S1,hs,hp⟩:dG B u0 q T m (λS1=>S1=S) W:=bG;have MS:aZ B u0 q T S m W:=hp ▸ hs;have hF5:∀k,w.heap.size<=k->¬ (F k\/k∈ [g]):=λk hk a=>a.elim (λa=>by have:=aQ.out k a;omega) (λa=>by simp at a;omega);have hn5:=hf.blk Dt (hF5 _ ak);have Iz:=hf.blk pK (hF5 _ ak);have hq5:=hf.blk RN (λa=>a.elim (λa=>by have:=aQ.out _ a;omega) (λa=>by simp at a;omega));have hr5:Fr (λk=>F k\/k=g) w W:=kV.out.trans (hf.more λk a=>a.imp id λa=>acI.1 a);obtain⟨w5,oI⟩:=aJ (W);rw[<-oI]at MS hn5 Iz hT7 hq5 hr5 ⊢;have PV:=hr5.size;have vV:=ah (Sx.start (F:=F) MS);have lG:=ah MS;have BA:=ah hn5;have kE:=ah Iz;have HG5:=ah hT7;have HQ5:=ah hq5;have nX:=ah hr5;clear au hf hs hp aW fQ e0 e1 e2 e3 e4 e5 e6 MS hn5 Iz hT7 hq5 hr5 hF5 oI u W uJ lD Dt pK HG4 RN kV wP;go_wp2_with fail
    refine aP (λu=>⟨#[_,_,_,_,_,_,_,_,_,_,_,_,_,_,_,_,_,_,_,_,_,_,_,_,u 0,u 1,u 2,u 3,u 4,u 5,u 6,u 7,u 8,_,_],_⟩)
     [aF (aG (fr)),
      aF (aG (dn)),
      aF (.bool (!decide (fr=dn))),
      aF (.bool (!decide (fr=dn))),
      Fl.gd _ (!decide (fr=dn)) true (aG (fr)),
      Fl.gd _ (!decide (fr=dn)) true (.pointer (some ⟨w.heap.size+1,4,none⟩)),
      Fl.gd _ (!decide (fr=dn)) true (aG ((n).right)),
      Fl.gd _ (!decide (fr=dn)) true (.bool (decide (fr=(n).right))),
      aF (.bool ((!decide (fr=dn))&&(decide (fr=(n).right))))]
     F [1] (λj W=>dG B u0 q T (m) (λS1=>S1=S) W) aV aV [] rfl aH (by simp<;>omega) (λk hk=>⟨by have:=aQ.out k hk;omega,by simp⟩) ⟨λ_=>undef,rfl⟩ (⟨S,lG.out.below HK aU.drew,rfl⟩) ?_ ?_ ?_
    ·intro i o hi ho u W hf hold aj jP;have aW:=fw aQ hf BA;have dI:=fw aQ hf kE
     match i,ho with
     |0,ho=>exact sv ho (aC rfl rfl (dI.cell 0) (dI.cell 1))
     |1,ho=>
      exact absurd aH hi
     |2,ho=>exact sv ho (kH rfl (aj 0 rfl) (aj 1 rfl))
     |3,ho=>exact sv ho (bg rfl (aj 2 rfl))
     |4,ho=>exact svg ho (aT (v:=u 3) rfl (aj 3 rfl)) (λhb=>aC rfl rfl (dI.cell 0) (dI.cell 1))
     |5,ho=>exact svg ho (aT (v:=u 3) rfl (aj 3 rfl)) (λhb=>fP rfl rfl)
     |6,ho=>exact svg ho (aT (v:=u 3) rfl (aj 3 rfl)) (λhb=>aC rfl (aj 5 rfl hb) (aW.cell 4) (aW.cell 5))
     |7,ho=>exact svg ho (aT (v:=u 3) rfl (aj 3 rfl)) (λhb=>iI rfl (aj 4 rfl hb) (aj 6 rfl hb))
     |8,ho=>exact sv ho (aft rfl (aj 3 rfl) (λhb=>(aj 7 rfl hb)) rfl)
     |n+9,ho=>exact absurd ho aH
    ·intro t i o ht ho u W hf bG aj;have aW:=fw aQ hf BA;have dI:=fw aQ hf kE
     match t,ht with
     |0,ht=>
      have ht:=aA ht;subst ht;obtain rfl:=aA ho;refine⟨aB rfl,Does.call (fV dP rfl ) ?_⟩;obtain⟨S1,hs,hp⟩:=bG;refine aac (dX W) ?_;rintro e w' ⟨rfl,hb⟩;exact⟨_,rfl,rfl,rfl, .of_below hb,S1,hs.below HK hb,hp⟩
     |n+1,ht=>exact absurd ht aH
    ·intro u W hf bG au;have aW:=fw aQ hf BA;have dI:=fw aQ hf kE;have e0:=au.q 0;have e1:=au.q 1;have e2:=au.q 2;have e3:=au.q 3;have e8:=au.q 8;simp only[e0,e1,e2,e3,e8];obtain⟨S1,hs,hp⟩:dG B u0 q T m (λS1=>S1=S) W:=bG;have x8:=vV.out.reg HK (show aZ B u0 q T S m W from hp ▸ hs) hf;have hg8:=hf.blk HG5 (λa=>a.elim (λa=>by have:=aQ.out _ a;omega) (λa=>by simp at a));have hq8:=hf.blk HQ5 (λa=>a.elim (λa=>by have:=aQ.out _ a;omega) (λa=>by simp at a));have MR:=ah (nX.out.trans (hf.more λk a=> .inl (a.elim id λa=>absurd a aaj)));obtain⟨w8,Iy⟩:=aJ (W);rw[<-Iy]at x8 hg8 hq8 MR ⊢;have GU:=ah x8;have HQ8:=ah hq8;have HG8:=ah hg8;have c0:w8.cell? ⟨g,0,none⟩=some (.int .i64 ((r+lv.count:Nat):Int)):=hg8.cell 0;have f0:=hg8.frozen 0;have lt:=hg8.lt;have hwr:IntKind.i64.wrap (((r+lv.count:Nat):Int)+1)=((r+lv.count:Nat):Int)+1:=acK _ ak;generalize bK:(!decide (fr=dn)&&decide (fr=n.right))=b2;have qj:=ah bK;clear au hf hs hp aW dI e0 e1 e2 e3 e8 x8 hg8 hq8 Iy bK W vV HG5 HQ5 nX BA kE
     cases b2 with
     |false=>
      go_wp2
      go_end0
      exact⟨rfl,_,Q9 HRK zZ qj aH,GU.out.st,MR,HG8,HQ8⟩
     |true=>
      go_wp2
      go_end0
      have hf9:Fr (λk=>k=g) w8 (w8.setCell ⟨g,0,none⟩ (.int .i64 ((r+lv.count:Nat)+1))):=Fr.dO (S:=λk=>k=g) rfl _;exact⟨rfl,_,Q9 HRK zZ qj aH,GU.out.st.far HK HG8 ak hf9 ay ay ay ay,MR.out.trans (hf9.more λk a=> .inr a),HG8.out.dO 0 _,hf9.blk HQ8 ak⟩
end
section
variable {F:Nat->Prop}{B u0 q m:Nat}{T:List bT->Nat->World->Prop}{S:St}{w w':World}
theorem afu(h:aZ B u0 q T S m w)(l:List (Tok × TN)):∀i,rkS S l i<=i*4294967296
 |0=>by simp[rkS]
 |i+1=>by
  have ih:=afu h l i;have h1:=akA h (l.getD i (dn,TN.zero)).2.left
  have h2:YK S (l.getD i (dn,TN.zero)).2 (iJ l i)<=4294967296:=by
   unfold YK;split<;>split<;>omega
  rw[rkS];omega
def afv(S:St)(q g gs:Nat)(l:List (Tok × TN))(i:Nat)(Y:Nat->Prop)(w:World):Prop:=
 aO w g 3 (abY (rkS S l i:Nat))/\aO w gs 73 #[.pointer (some ⟨q,0,none⟩)]/\(q<g/\q<gs/\gs≠g)/\Y=λk=>k=g\/k=gs
theorem afw(K:Kv F B u0 T)(g gs:Nat)(l:List (Tok × TN))(hn:l.length<=250)(hl:∀p,p∈l->p.2.left=dn\/∃n',S p.2.left=some n'):aiS F B u0 q T m S 65 #[.pointer (some ⟨g,0,none⟩), .pointer (some ⟨gs,0,none⟩)] l (afv S q g gs l) where
 keep:=fun⟨h1,h2,h3,h4⟩ hf hG=>⟨hf.blk h1 (λa=>hG _ a h1.lt (by rw[h4];exact .inl rfl)),hf.blk h2 (λa=>hG _ a h2.lt (by rw[h4];exact .inr rfl)),h3,h4⟩
 lt:=fun⟨h1,h2,h3,h4⟩ a=>by
  rw[h4]at a;rcases a with rfl | rfl
  ·exact h1.lt
  ·exact h2.lt
 lo:=fun⟨h1,h2,h3,h4⟩ a=>by
  rw[h4]at a;rcases a with rfl | rfl
  ·exact h3.1
  ·exact h3.2.1
 enters:=λargs w=>by kernel_rfl
 call:=λi hi Y w hP hs=>by
  obtain⟨h1,h2,⟨h3,h4,h5⟩,rfl⟩:=hP;have hr:=afu hs l i;refine(ab2 K hs (k:=l[i].1) (fr:=iJ l i) h1 h2 h3 h4 h5 (hl _ (acT hi)) ak).mono ?_;rintro e w' ⟨rfl,z,hz,hs',hf,hg,hq⟩;refine⟨rfl,hs',hf.more λk a=>a.imp id .inl,_,⟨?_,hq,⟨h3,h4,h5⟩,rfl⟩,λk a=> .inl a⟩;have e1:(l.getD i (dn,TN.zero)).2=l[i].2:=by rw[List.getD_eq_getElem?_getD,List.getElem?_eq_getElem hi];rfl
  rw[rkS,e1, <-hz];exact hg
theorem Em(K:Kv F B u0 T)(h:aZ B u0 q T S m w){k:Tok}{n:TN}{l l':List (Tok × TN)}(hl:l=(k,n)::l')(uD:rC S l)(hn:l.length<=250)(hle:∀p,p∈l->p.2.left=dn\/∃n',S p.2.left=some n'):Calls prog 35 #[.pointer (some ⟨q,0,none⟩),aG k] w λe w'=>e= .returned (.tuple #[.int .i64 (rkS S l l.length:Nat), .int .i64 0])/\aZ B u0 q T S m w'/\Fr F w w':=by
 have hk:S k=some n:=by
  have:=(uD.at_ (i:=0) (by rw[hl];simp)).1;subst hl;exact this
 have Xv:=ah (λW (hW:aZ B u0 q T S m W) g gs Y (hP:afv S q g gs l 0 Y W)=>F8 K hW (afw K g gs l hn hle) hP hl uD hn);unfold ClE at Xv;obtain⟨rr,Wu⟩:=aJ (iJ l l.length);rw[<-Wu]at Xv;obtain⟨rk,Fa⟩:=aJ (rkS S l l.length);rw[<-Fa];have HRK:=ah Fa;have x3:=(((Sx.start (F:=F) h).new K 73 #[.pointer (some ⟨q,0,none⟩)]).new K 71 (aI k)).new K 71 (aI k);simp only[aad]at x3;have hb:=x3.at_ 0;have yx:=ah (Q7 K x3.st (c:=1) hb (by have:=x3.lo;omega) hk);have BD:=ah x3;have zX:=x3.lo;have hql:=x3.ql;have HK:=ah K;clear x3 hb h K hk hl uD hle Wu Fa;go_enter func35,ntmps35
 go_wp2_with fail
 refine aac yx ?_;rintro e w1 ⟨rfl,jr,eH⟩;have x4:=BD.out.call HK jr eH;have c0:w1.cell? ⟨w.heap.size,0,none⟩=some (.pointer (some ⟨q,0,none⟩)):=(x4.at_ 2).cell 0;obtain⟨k0,k1,lk⟩:=x4.tok 1;have l0:w.heap.size<w1.heap.size:=by omega
 have x5:=x4.new HK 3 (abY 0);have Wv:Hid (afv S q w1.heap.size w.heap.size l 0 _ _):=ah ⟨x5.at_ 0,x5.at_ 3,⟨by omega,by omega,by omega⟩,rfl⟩;have ark:=ah (Xv.out _ x5.st _ _ _ Wv);have kE:=ah x5.fr;have PV:(w1.alloc (.cells (abY 0) 3)).heap.size=w1.heap.size+1:=aad ..;clear jr eH x4 x5 BD yx Wv Xv;go_wp2_with fail
 refine aac ark ?_;rintro e w6 ⟨rfl,Jw,wZ,Y6,⟨hg6,hq6,_,_⟩,_⟩;rw[<-HRK.out]at hg6;have c0:w6.cell? ⟨w.heap.size,0,none⟩=some (.pointer (some ⟨q,0,none⟩)):=hq6.cell 0;have q1:w6.cell? ⟨q,1,none⟩=some (.int .i64 0):=Jw.self.cell 1;have r0:w6.cell? ⟨w1.heap.size,0,none⟩=some (.int .i64 (rk:Nat)):=hg6.cell 0;have yS:=ah Jw;have vS:Hid (Fr F w w6):=ah (kE.out.newP wZ λk a=>a.imp id λa=>by rcases a with rfl | rfl<;>omega);clear Jw wZ hg6 hq6 ark kE k0 k1;go_wp2;go_ret2;exact⟨rfl,yS,vS⟩
end
section
variable {F:Nat->Prop}{B u0 q m:Nat}{T:List bT->Nat->World->Prop}{S:St}{w w':World}
theorem LO.frY{α:Type}{E:Enc α}{ty:TypeId}{base:Nat}{v:Value}{l:List α}{G:Nat->Prop}(h:LO E ty w base v l)(hf:Fr G w w')(hG:∀k,v.ownBlock=some k->¬G k):LO E ty w' base v l:=by
 obtain⟨h1,h2⟩:=h;refine⟨h1, ?_⟩;rcases h2 with h2 | ⟨g,cap,cur,rfl,e2,e3,e4⟩
 ·exact .inl h2
 ·exact .inr ⟨g,cap,cur,rfl,e2,(hf.block g (Array.getElem?_eq_some_iff.1 e3).1 (hG g rfl)).trans e3,e4⟩
theorem aZ.row(K:Kv F B u0 T)(h:aZ B u0 q T S m w){b e s n:Nat}{v:Value}{xs:List Value}(ho:w.ownsRow b e s v n xs)(hb:q<b)(hg:w.grownBy w' v.ownBlock)(h1:e≠102:=by decide)(h2:e≠106:=by decide)(h3:e≠108:=by decide)(h4:e≠120:=by decide):aZ B u0 q T S m w':=by
 refine h.up K (Fr.iO hg) (λk hk=> ?_) (λhk=>by have:=(ada ho q hk).1;omega);obtain⟨cs,yT⟩:=I9 ho hk;refine⟨by have:=(ada ho k hk).1;have:=h.hq;omega,λo h=> ?_⟩;have e:o= .cells cs e:=by have:=h.symm.trans yT;injection this
 subst e;exact⟨λcs' e=>by injection e with _ e;exact h1 e,λcs' e=>by injection e with _ e;exact h2 e,λcs' e=>by injection e with _ e;exact h3 e,λcs' e=>by injection e with _ e;exact h4 e,λ_ _ e=>by cases e⟩
def ug:Enc (Tok × TN) where
 enc p:= [.int .i64 p.1.1, .int .i64 p.1.2, .int .i64 p.2.up.1, .int .i64 p.2.up.2, .int .i64 p.2.left.1, .int .i64 p.2.left.2, .int .i64 p.2.right.1, .int .i64 p.2.right.2, .int .i64 p.2.count, .int .i64 p.2.height]
 size:=10
 len _:=rfl
 pos:=by decide
 one _ u hu:=by simp at hu;rcases hu with rfl | rfl | rfl | rfl | rfl | rfl | rfl | rfl | rfl | rfl<;>rfl
theorem amY:EI prog 168 (.agg #[.int .i64 0, .int .i64 0, .int .i64 0, .int .i64 0, .int .i64 0, .int .i64 0, .int .i64 0, .int .i64 0, .int .i64 0, .int .i64 0]) 10 80:=EI.mk aV
theorem ab3(K:Kv F B u0 T)(h:aZ B u0 q T S m w){k fr:Tok}{n:TN}{g c:Nat}{A:Option Addr}{ls:List (Tok × TN)}(hg:aO w g 164 #[.slice A ls.length c])(hr:LO ug 168 w (g+1) (.slice A ls.length c) ls)(hqg:q<g)(hn:ls.length<=1000):
  Calls prog 130 #[aG k,pY n,aG fr, .pointer (some ⟨g,0,none⟩)] w λe w'=>e= .returned (.tuple #[])/\aZ B u0 q T S m w'/\Fr (λj=>j=g\/(ady A ls.length c).ownBlock=some j) w w'/\∃A' c',aO w' g 164 #[.slice A' (ls.length+1) c']/\LO ug 168 w' (g+1) (.slice A' (ls.length+1) c') (ls++ [(k,n)])/\∀j,(ady A' (ls.length+1) c').ownBlock=some j->(ady A ls.length c).ownBlock=some j\/w.heap.size<=j:=by
 have hb:=(((aai w.heap.size w).alloc aK (.cells (aI k) 71)).alloc (by rw[aad];omega) (.cells (fO n) 124)).alloc (by rw[aad,aad];omega) (.cells (aI fr) 71);have BP:=hg.lt;have rF:=h.hq;obtain⟨w4,vU⟩:=aJ (((w.alloc (.cells (aI k) 71)).alloc (.cells (fO n) 124)).alloc (.cells (aI fr) 71));rw[<-vU]at hb;have HW4:=ah vU;have b4:=hg.below hb BP;have r4:=hr.below hb
 have Dh:Hid (∀A' c' w5,w5.ownsRow (g+1) 168 10 (.slice A' (ls.length+1) c') (ls.length+1) (ug.cells ls++ug.enc (k,n))->w4.grownBy w5 (ady A ls.length c).ownBlock->((ady A' (ls.length+1) c').ownBlock=(ady A ls.length c).ownBlock\/∃j,(ady A' (ls.length+1) c').ownBlock=some j/\w4.heap.size<=j)->Below (g+1) w4 w5->
   aZ B u0 q T S m (w5.setCell ⟨g,0,none⟩ (.slice A' (ls.length+1) c'))/\Fr (λj=>j=g\/(ady A ls.length c).ownBlock=some j) w (w5.setCell ⟨g,0,none⟩ (.slice A' (ls.length+1) c'))/\∃A2 c2,aO (w5.setCell ⟨g,0,none⟩ (.slice A' (ls.length+1) c')) g 164 #[.slice A2 (ls.length+1) c2]/\LO ug 168 (w5.setCell ⟨g,0,none⟩ (.slice A' (ls.length+1) c')) (g+1) (.slice A2 (ls.length+1) c2) (ls++ [(k,n)])/\∀j,(ady A2 (ls.length+1) c2).ownBlock=some j->(ady A ls.length c).ownBlock=some j\/w.heap.size<=j):=by
  refine ah λA' c' w5 dh Vw RD iT=> ?_;have MS:=(h.below K hb).row K r4 ak Vw;have EG:=b4.below iT (Nat.lt_succ_self _);have MK:Fr (λj=>j=g) w5 (w5.setCell ⟨g,0,none⟩ (.slice A' (ls.length+1) c')):=Fr.dO (S:=λj=>j=g) rfl _;have hL:LO ug 168 w5 (g+1) (.slice A' (ls.length+1) c') (ls++ [(k,n)]):=LO.snoc rfl rfl rfl dh;refine⟨MS.far K EG hqg MK ay ay ay ay,((Fr.of_below hb).trans ((Fr.iO Vw).more λj a=> .inr a)).trans (MK.more λj a=> .inl a),A',c',EG.dO 0 _,hL.fr MK (λj a=>by omega),λj hj=> ?_⟩;rcases RD with RD | ⟨j',RD,yh⟩
  ·exact .inl (by rw[<-RD];exact hj)
  ·rw[RD]at hj;injection hj with hj;subst hj;exact .inr (acN hb.size yh)
 have VT:w4.ownsRow (g+1) 168 10 (.slice A ls.length c) ls.length (ug.cells ls):=r4;have pG:g+1<=w4.heap.size:=by have:=hb.size;omega
 have oD:=ah b4;have k4:w.cell? ⟨g,0,none⟩=some (.slice A ls.length c):=hg.cell 0;have l4:g<w.heap.size+1:=by omega
 have l5:g<w.heap.size+2:=by omega
 have yU:w4.heap.size=w.heap.size+1+1+1:=by rw[vU,aad,aad,aad]
 clear hg hr h K hb b4 r4 vU;go_enter func130,ntmps130
 go_wp2_with (at_builtin;rw[show((w.alloc (.cells #[.int .i64 k.1, .int .i64 k.2] 71)).alloc (.cells #[.int .i64 n.up.1, .int .i64 n.up.2, .int .i64 n.left.1, .int .i64 n.left.2, .int .i64 n.right.1, .int .i64 n.right.2, .int .i64 n.count, .int .i64 n.height] 124)).alloc (.cells #[.int .i64 fr.1, .int .i64 fr.2] 71)=w4 from HW4.out.symm];refine fA rfl _ _ 164 rfl amY underlying164 rfl ay rfl VT rfl (by simp[yU]) rfl (by simp[Value.oneCell']) (by unfold maxLen;omega) ak pG ?_;intro v' w5 eG jT iT RD _;obtain⟨A',c',rfl⟩:=DK eG;have EG:=oD.out.below iT (Nat.lt_succ_self _);have k5:w5.cell? ⟨g,0,none⟩=some (.slice A ls.length c):=EG.cell 0;have f5:=EG.frozen 0;have l5:=EG.lt;have fE:=ah (Dh.out A' c' w5 eG jT RD iT);clear EG eG jT RD iT)
 go_end0
 exact⟨rfl,fE⟩
def afx(q g:Nat)(l:List (Tok × TN))(i:Nat)(Y:Nat->Prop)(w:World):Prop:=
 ∃A c,aO w g 164 #[.slice A i c]/\LO ug 168 w (g+1) (.slice A i c) (l.take i)/\q<g/\Y=λk=>k=g\/(ady A i c).ownBlock=some k
theorem afy(K:Kv F B u0 T)(g:Nat)(l:List (Tok × TN))(hn:l.length<=250):aiS F B u0 q T m S 130 #[.pointer (some ⟨g,0,none⟩)] l (afx q g l) where
 keep:=fun⟨A,c,h1,h2,h3,h4⟩ hf hG=>⟨A,c,hf.blk h1 (λa=>hG _ a h1.lt (by rw[h4];exact .inl rfl)),h2.frY hf (λk hk a=>hG k a (ada h2 k hk).2 (by rw[h4];exact .inr hk)),h3,h4⟩
 lt:=fun⟨A,c,h1,h2,h3,h4⟩ a=>by
  rw[h4]at a;rcases a with rfl | a
  ·exact h1.lt
  ·exact(ada h2 _ a).2
 lo:=fun⟨A,c,h1,h2,h3,h4⟩ a=>by
  rw[h4]at a;rcases a with rfl | a
  ·exact h3
  ·have:=(ada h2 _ a).1;omega
 enters:=λargs w=>by kernel_rfl
 call:=λi hi Y w hP hs=>by
  obtain⟨A,c,h1,h2,h3,rfl⟩:=hP;obtain⟨ls,BO⟩:=aJ (l.take i);have hlen:ls.length=i:=by rw[BO,List.length_take];omega
  rw[<-BO]at h2;subst hlen;refine(ab3 K hs (k:=l[ls.length].1) (n:=l[ls.length].2) (fr:=iJ l ls.length) h1 h2 h3 ak).mono ?_;rintro e w' ⟨rfl,hs',hf,A',c',hB,hL,ho⟩;refine⟨rfl,hs',hf.more λk a=> .inr a,_,⟨A',c',hB, ?_,h3,rfl⟩,λk a=> ?_⟩
  ·rw[acO hi, <-BO];exact hL
  ·rcases a with rfl | a
   ·exact .inl (.inl rfl)
   ·exact(ho k a).imp .inr id
theorem U0(K:Kv F B u0 T)(h:aZ B u0 q T S m w){k:Tok}{n:TN}{l l':List (Tok × TN)}(hl:l=(k,n)::l')(uD:rC S l)(hn:l.length<=250):Calls prog 95 #[.pointer (some ⟨q,0,none⟩),aG k] w λe w'=>∃A c,e= .returned (.slice A l.length c)/\LO ug 168 w' w.heap.size (.slice A l.length c) l/\aZ B u0 q T S m w'/\Fr F w w':=by
 have Xv:=ah (λW (hW:aZ B u0 q T S m W) g Y (hP:afx q g l 0 Y W)=>F8 K hW (afy K g l hn) hP hl uD hn);unfold ClE at Xv;obtain⟨rr,Wu⟩:=aJ (iJ l l.length);rw[<-Wu]at Xv;have x2:=((Sx.start (F:=F) h).new K 71 (aI k)).new K 164 #[.slice none 0 0];simp only[aad]at x2;have hb:=x2.at_ 0;have hql:=x2.ql;have HP2:Hid (afx q (w.heap.size+1) l 0 _ _):=ah ⟨none,0,hb,LO.nil_ _ _,by omega,rfl⟩;have arl:=ah (Xv.out _ x2.st _ _ HP2);have kL:=ah x2.fr;have HLL:=ah (ahe (l:=l));clear x2 hb h K hl uD Wu Xv HP2;go_enter func95,ntmps95
 go_wp2_with fail
 refine aac arl ?_;rintro e w3 ⟨rfl,Aa,nP,Y3,⟨A,c,h1,h2,_,_⟩,_⟩;have c0:w3.cell? ⟨w.heap.size+1,0,none⟩=some (.slice A l.length c):=h1.cell 0;have HL3:=ah h2;have ZY:=ah Aa
 have sD:Hid (Fr F w w3):=ah (kL.out.newP nP λk a=>a.imp id λa=>by
  rcases a with rfl | a
  ·omega
  ·simp[Value.ownBlock]at a)
 clear Aa nP h1 h2 arl kL;go_wp2;go_ret;refine⟨A,c,rfl, ?_,ZY,sD⟩;have h2:=HL3.out;rw[HLL.out]at h2;exact h2.lower ak
end
section
variable {F:Nat->Prop}{B u0 q tq m:Nat}{T:List bT->Nat->World->Prop}{S:St}{w w':World}
theorem rD:∀args w,(callFunc 41 args).run prog w= .ok (.enter 41 args) w:=λargs w=>by kernel_rfl
theorem aiY:∀args w,(callFunc 34 args).run prog w= .ok (.enter 34 args) w:=λargs w=>by kernel_rfl
theorem U4:∀args w,(callFunc 55 args).run prog w= .ok (.enter 55 args) w:=λargs w=>by kernel_rfl
theorem Pv:∀args w,(callFunc 54 args).run prog w= .ok (.enter 54 args) w:=λargs w=>by kernel_rfl
theorem X9:∀args w,(callFunc 44 args).run prog w= .ok (.enter 44 args) w:=λargs w=>by kernel_rfl
theorem Zx:∀args w,(callFunc 73 args).run prog w= .ok (.enter 73 args) w:=λargs w=>by kernel_rfl
section
variable {o:Oper}{a:Act}{x y:Operand}{g k:Nat}
theorem lU(ho:o.op= .fieldAddr 75 x 0)(hx:a.eval x= .pointer (some ⟨g,k,none⟩)):(execOp a.eval o).run prog w= .ok (.value (.pointer (some ⟨g,k,none⟩))) w:=by
 unfold execOp;simp only[ho,hx];simp[go_sem]
end
section
variable {o:Oper}{a:Act}
theorem Px(ho:o.op= .alloc 71):(execOp a.eval o).run prog w= .ok (.value (.pointer (some ⟨w.heap.size,0,none⟩))) (w.alloc (.cells (aI (0,0)) 71)):=by
 unfold execOp;simp only[ho];simp[go_sem]
end
theorem nG(v:Int)(w:World):Calls prog 41 #[.int .i64 v] w λe w'=>e= .returned (aG (v,v))/\Below w.heap.size w w':=by
 have HB:=ah (aO.new w 71 (aI (v,v)));have BZ:=ah ((aai w.heap.size w).alloc aK (.cells (aI (v,v)) 71));go_enter func41,ntmps41
 go_wp2;refine bodyPost_ret (eF dW rfl rfl HB rfl) rfl ?_;exact⟨rfl,BZ⟩
theorem Jk(u v:Int)(w:World):Calls prog 34 #[.int .i64 u, .int .i64 v] w λe w'=>e= .returned (aG (u,v))/\Below w.heap.size w w':=by
 have HB:=ah (aO.new w 71 (aI (u,v)));have BZ:=ah ((aai w.heap.size w).alloc aK (.cells (aI (u,v)) 71));go_enter func34,ntmps34
 go_wp2;refine bodyPost_ret (eF dW rfl rfl HB rfl) rfl ?_;exact⟨rfl,BZ⟩
def jO(v:Int):Prop:=0<=v/\v<1048576
instance (v:Int):Decidable (jO v):=by unfold jO;infer_instance
theorem Lm{g k:Nat}{ty:TypeId}{l:List Int}(hB:aO w g ty (l.map (acS .i64)).toArray)(hk:k<l.length):w.cell? ⟨g,k,none⟩=some (.int .i64 l[k]):=by
 refine(hB.cell _).trans ?_;simp[hk]
theorem Eo(v:Int)(w:World):Calls prog 62 #[.int .i64 v] w λe w'=>e= .returned (.int .i64 (if jO v then 0 else 30))/\w'=w:=qC v w
theorem o9{g c:Nat}{l:List Int}(hB:aO w g 3 (l.map (acS .i64)).toArray)(hl:l.length<=100):Calls prog 53 #[.slice (some ⟨g,0,none⟩) l.length c] w λe w'=>e= .returned (.int .i64 (if ∀v,v∈l->jO v then 0 else 30))/\w'=w:=by
 have HB:=ah hB;have HV:=ah Eo;have BP:=hB.lt;obtain⟨r,hr⟩:∃x:Int,x=if ∀v,v∈l->jO v then 0 else 30:=⟨_,rfl⟩;rw[<-hr];have HR:=ah hr;clear hB hr;go_enter func53,ntmps53
 go_wp2
 go_loopw [8] (λi wr=>∃k:Nat,k<=l.length/\i= .int .i64 k/\wr=w/\∀x,x∈l.take k->jO x) (λi _=>l.length-(intOf i).toNat)
 case atStart=>exact⟨0,Nat.zero_le _,rfl,rfl,by simp⟩
 case round=>
  obtain⟨k,hk,rfl,rfl,hv⟩:=hrel;by_cases hlt:k<l.length
  ·have c0:=Lm HB hlt;have HX:=ah (acT hlt);have HT:=ah (acO hlt);have HVV:=ah hv;have hki:(k:Int)<(l.length:Int):=by omega
   have A8:IntKind.i64.wrap ((k:Int)+1)=((k+1:Nat):Int):=by rw[acK _ ak];rfl
   generalize l[k]=x at*;clear hv;by_cases v1:jO x
   ·have HV1:Hid (∀W,Calls prog 62 #[.int .i64 x] W λe w'=>e= .returned (.int .i64 0)/\w'=W):=ah λW=>by have:=HV.out x W;rwa [if_pos v1]at this
    have HXV:=ah v1;clear v1;go_wp2_with fail
    refine(HV1.out _).mono ?_;rintro e w' ⟨rfl,rfl⟩;go_wp2
    go_roundw
    case rel=>exact⟨k+1,by omega,by go_num,by first | rfl | trivial,λy hy=>by
     rw[HT.out,aaf,acI]at hy;rcases hy with hy | rfl
     ·exact HVV y hy
     ·exact HXV⟩
    case measure=>simp[intOf];omega
   ·have HV1:Hid (∀W,Calls prog 62 #[.int .i64 x] W λe w'=>e= .returned (.int .i64 30)/\w'=W):=ah λW=>by have:=HV.out x W;rwa [if_neg v1]at this
    have HXV:=ah v1;clear v1;go_wp2_with fail
    refine(HV1.out _).mono ?_;rintro e w' ⟨rfl,rfl⟩;go_wp2;go_ret;refine⟨?_,rfl⟩;rw[HR.out,if_neg λa=>HXV.out (a _ HX.out)];rfl
  ·obtain rfl:k=l.length:=by omega
   rw[ahe]at hv;have ZV:=ah hv;clear hv hlt;go_wp2;go_ret;refine⟨?_,rfl⟩;rw[HR.out,if_pos ZV.out];rfl
structure DC(B u0 q tq:Nat)(T:List bT->Nat->World->Prop)(S:St)(m:Nat)(w:World):Prop where
 st:aZ B u0 q T S m w
 bk:aO w tq 75 #[.pointer (some ⟨q,0,none⟩)]
 hq:q<tq
theorem Fr.nil_(h:Fr (λk=>F k\/k∈([]:List Nat)) w w'):Fr F w w':=h.more λ_ a=>a.elim id λa=>absurd a aaj
theorem DC.call{S':St}{m':Nat}(K:Kv F B u0 T)(h:DC B u0 q tq T S m w)(hs:aZ B u0 q T S' m' w')(hf:Fr F w w'):DC B u0 q tq T S' m' w':=
 ⟨hs,hf.blk h.bk λa=>by have:=K.low _ a;have:=h.st.hq;have:=h.hq;omega,h.hq⟩
theorem DC.below(K:Kv F B u0 T)(h:DC B u0 q tq T S m w)(hb:Below w.heap.size w w'):DC B u0 q tq T S m w':=h.call K (h.st.below K hb) (.of_below hb)
end
section
variable {F:Nat->Prop}{B u0 q tq m:Nat}{T:List bT->Nat->World->Prop}{S:St}{w w':World}
theorem qF(K:Kv F B u0 T)(h:DC B u0 q tq T S m w)(v:Int):Calls prog 43 #[.pointer (some ⟨tq,0,none⟩), .int .i64 v] w λe w'=>e= .returned (.tuple #[.bool (decide (jO v)&& !(S (v,v)).isSome), .int .i64 (if jO v then 0 else 30)])/\DC B u0 q tq T S m w'/\Fr F w w':=by
 have mV:=(aai w.heap.size w).alloc aK (.cells #[.int .i64 v] 3);have pR:=ah (h.below K mV);have jy:=ah pR.out.bk;have l9:Hid (Fr F w _):=ah (Fr.of_below mV);have RP:=ah (o9 (l:= [v]) (c:=1) (aO.new w 3 #[.int .i64 v]) aH);have rF:=h.st.hq;have I5:=h.hq;have lI:=h.bk.lt;have HK:=ah K;have aQ:Hid (∀k,F k->k<B):=ah K.low;by_cases hv:jO v
 ·have afz:=ah (λW (hW:aZ B u0 q T S m W)=>UW K hW (k:=(v,v)) ⟨hv,hv⟩);have Ep:Hid (Calls _ _ _ _ λe w'=>e= .returned (.int .i64 0)/\w'=_):=ah (by have:=RP.out;rwa [if_pos (by simpa using hv)]at this);rw[decide_eq_true hv,if_pos hv];obtain⟨hb,hhb⟩:=aJ ((S (v,v)).isSome);rw[<-hhb]at afz ⊢;clear hhb mV h K RP hv;go_enter func43,ntmps43
  go_wp2_with fail
  refine aac Ep ?_;rintro e w1 ⟨rfl,uw⟩;rw[<-uw]at pR jy l9;have gI:=l9.out.size;clear uw;go_wp2_with fail
  refine aP (λu=>⟨#[_,_,_,_,_,_,_,u 10,u 11,_,_,_,_,_,_,u 7,u 0,u 1,u 2,u 3,u 4,u 5,u 6,u 8,u 9,_,_,_,_,_,_,_],_⟩)
   [bf tq 0,
    bf tq 0,
    bf tq 0,
    bf q 0,
    aF (.int .i64 (v)),
    aF (aG ((v,v))),
    aF (.tuple #[.bool (hb), .int .i64 (0)]),
    aF (.tuple #[.bool (hb), .int .i64 (0)]),
    aF (.bool (hb)),
    aF (.int .i64 (0)),
    aF (.bool (hb)),
    aF (.int .i64 (0))]
   F [5,6] (λj W=>dG B u0 q T (m) (λS1=>S1=S) W) aV aV [] rfl aH (by simp<;>omega) (λk hk=>⟨by have:=aQ.out k hk;omega,by simp⟩) ⟨λ_=>undef,rfl⟩ (⟨S,pR.out.st.below HK aU.drew,rfl⟩) ?_ ?_ ?_
  ·intro i o hi ho u W hf hold aj jP;have aW:=fw aQ hf jy
   match i,ho with
   |0,ho|4,ho=>exact sv ho (bg rfl rfl)
   |1,ho=>exact sv ho (jK rfl (aj 0 rfl))
   |2,ho=>exact sv ho (lU rfl (aj 1 rfl))
   |3,ho=>exact sv ho (lT rfl (aj 2 rfl) (aW.cell 0))
   |5,ho|6,ho=>
    exact absurd aH hi
   |7,ho=>exact sv ho (bg rfl (aj 6 rfl))
   |8,ho=>exact sv ho (rQ rfl (aj 7 rfl))
   |9,ho=>exact sv ho (rU rfl (aj 7 rfl))
   |10,ho=>exact sv ho (jo rfl (aj 8 rfl))
   |11,ho=>exact sv ho (jo rfl (aj 9 rfl))
   |n+12,ho=>exact absurd ho aH
  ·intro t i o ht ho u W hf bG aj;have aW:=fw aQ hf jy
   match t,ht with
   |0,ht=>
    have ht:=aA ht;subst ht;obtain rfl:=aA ho;refine⟨aB rfl,Does.call (dH rD rfl (aj 4 rfl)) ?_⟩;obtain⟨S1,hs,hp⟩:=bG;refine aac (nG v W) ?_;rintro e w' ⟨rfl,hb⟩;exact⟨_,rfl,rfl,rfl, .of_below hb,S1,hs.below HK hb,hp⟩
   |1,ht=>
    have ht:=aA ht;subst ht;obtain rfl:=aA ho;refine⟨aB rfl,Does.call (bV U4 rfl (aj 3 rfl) (aj 5 rfl)) ?_⟩;obtain⟨S1,hs,hp⟩:dG B u0 q T (m) (λS1=>S1=S) W:=bG;refine aac (afz.out W (hp ▸ hs)) ?_;rintro e w' ⟨rfl,h1,h2⟩;exact⟨_,rfl,rfl,rfl,h2,_,h1,rfl⟩
   |n+2,ht=>exact absurd ht aH
  ·intro u W hf bG au;have aW:=fw aQ hf jy;have e0:=au.q 0;have e1:=au.q 1;have e2:=au.q 2;have e3:=au.q 3;have e4:=au.q 4;have e5:=au.q 5;have e6:=au.q 6;have e7:=au.q 7;have e8:=au.q 8;have e9:=au.q 9;have e10:=au.q 10;have e11:=au.q 11;simp only[e0,e1,e2,e3,e4,e5,e6,e7,e8,e9,e10,e11];obtain⟨S1,hs,hp⟩:dG B u0 q T (m) (λS1=>S1=S) W:=bG;have qQ:=ah (pR.out.call HK (show aZ B u0 q T (S) (m) W from hp ▸ hs) hf.nil_);have kL:=ah (l9.out.trans hf.nil_);obtain⟨w2,yY⟩:=aJ (W);rw[<-yY]at qQ kL ⊢;clear au hf hs hp e0 e1 e2 e3 e4 e5 e6 e7 e8 e9 e10 e11 aW yY pR l9  u W;have Rf:=ah qQ.out.bk;have yj:=kL.out.size
   cases hb<;>(go_wp2;go_ret2;exact⟨rfl,qQ,kL⟩)
 ·rw[decide_eq_false hv,if_neg hv];have Ep:Hid (Calls _ _ _ _ λe w'=>e= .returned (.int .i64 30)/\w'=_):=ah (by have:=RP.out;rwa [if_neg (by simpa using hv)]at this);clear mV h K RP hv;go_enter func43,ntmps43
  go_wp2_with fail
  refine aac Ep ?_;rintro e w1 ⟨rfl,rfl⟩;go_wp2;go_ret2;exact⟨rfl,pR,l9⟩
theorem aiZ(K:Kv F B u0 T)(h:aZ B u0 q T S m w){g c:Nat}{a b:Tok}(hB:aO w g 71 #[.int .i64 a.1, .int .i64 a.2, .int .i64 b.1, .int .i64 b.2])(hg:B<=g)(va:yR a)(vb:yR b)(iL:S a=none\/S b=none):Calls prog 63 #[.pointer (some ⟨q,0,none⟩), .slice (some ⟨g,0,none⟩) 2 c] w λe w'=>e= .returned (.int .i64 181)/\aZ B u0 q T S m w'/\Fr F w w':=by
 refine(wQ K h (l:= [a,b]) hB hg aH).mono ?_;rintro e w' ⟨r,rfl,hr,h1,h2⟩;rcases hr with⟨_,x,hx,hn⟩ | ⟨rfl,_⟩ | ⟨_,hx⟩
 ·simp at hx;rcases hx with rfl | rfl
  ·exact absurd va hn
  ·exact absurd vb hn
 ·exact⟨rfl,h1,h2⟩
 ·obtain⟨n1,e1⟩:=hx a aH;obtain⟨n2,e2⟩:=hx b aH;rcases iL with e | e
  ·rw[e]at e1;cases e1
  ·rw[e]at e2;cases e2
theorem ai0(K:Kv F B u0 T)(h:aZ B u0 q T S m w){a b:Tok}(va:yR a)(vb:yR b)(iL:S a=none\/S b=none):Calls prog 54 #[.pointer (some ⟨q,0,none⟩),aG a,aG b] w λe w'=>e= .returned (.tuple #[.bool false, .int .i64 181])/\aZ B u0 q T S m w'/\Fr F w w':=by
 have x3:=(((Sx.start (F:=F) h).new K 71 (aI a)).new K 71 (aI b)).new K 71 #[.int .i64 a.1, .int .i64 a.2, .int .i64 b.1, .int .i64 b.2];have hb:=x3.at_ 0;rw[aad,aad]at hb;have yx:=ah (aiZ K x3.st (c:=2) hb (by have:=x3.lo;omega) va vb iL);have BD:=ah x3;have HK:=ah K;clear x3 hb h K va vb iL;go_enter func54,ntmps54
 go_wp2_with fail
 refine aac yx ?_;rintro e w1 ⟨rfl,jr,eH⟩;have uJ:=ah (BD.out.call HK jr eH);clear jr eH BD yx;go_wp2;go_ret2;exact⟨rfl,uJ.out.st,uJ.out.fr⟩
theorem Lp(K:Kv F B u0 T)(h:DC B u0 q tq T S m w){xa xb:Int}(hv:jO xa/\jO xb){jb:Bool}{je:Int}(hs:∀W,aZ B u0 q T S m W->Calls prog 54 #[.pointer (some ⟨q,0,none⟩),aG (xa,xa),aG (xb,xb)] W λe w'=>e= .returned (.tuple #[.bool jb, .int .i64 je])/\aZ B u0 q T S m w'/\Fr F W w')(hje:je=0\/je=181):Calls prog 25 #[.pointer (some ⟨tq,0,none⟩), .int .i64 xa, .int .i64 xb] w λe w'=>e= .returned (.tuple #[.bool (if je=181 then decide (xa=xb)else jb), .int .i64 0])/\DC B u0 q tq T S m w'/\Fr F w w':=by
 have mV:=(aai w.heap.size w).alloc aK (.cells #[.int .i64 xa, .int .i64 xb] 3);have pR:=ah (h.below K mV);have jy:=ah pR.out.bk;have l9:Hid (Fr F w _):=ah (Fr.of_below mV);have RP:=ah (o9 (l:= [xa,xb]) (c:=2) (aO.new w 3 #[.int .i64 xa, .int .i64 xb]) aH);have rF:=h.st.hq;have I5:=h.hq;have lI:=h.bk.lt;have HK:=ah K;have aQ:Hid (∀k,F k->k<B):=ah K.low;have wz:=ah hs;have Ep:Hid (Calls _ _ _ _ λe w'=>e= .returned (.int .i64 0)/\w'=_):=ah (by have:=RP.out;rwa [if_pos (by simpa using hv)]at this);rcases hje with rfl | rfl
 ·clear mV h K RP hv hs;go_enter func25,ntmps25
  go_wp2_with fail
  refine aac Ep ?_;rintro e w1 ⟨rfl,uw⟩;rw[<-uw]at pR jy l9;have gI:=l9.out.size;clear uw;go_wp2_with fail
  refine aP (λu=>⟨#[_,_,_,_,_,_,_,_,_,u 12,u 13,_,_,_,_,_,_,_,u 9,u 0,u 1,u 2,u 3,u 4,u 5,u 6,u 7,u 8,u 10,u 11,_,_,_,_,_,_,_],_⟩)
   [bf tq 0,
    bf tq 0,
    bf tq 0,
    bf q 0,
    aF (.int .i64 (xa)),
    aF (aG ((xa,xa))),
    aF (.int .i64 (xb)),
    aF (aG ((xb,xb))),
    aF (.tuple #[.bool (jb), .int .i64 (0)]),
    aF (.tuple #[.bool (jb), .int .i64 (0)]),
    aF (.bool (jb)),
    aF (.int .i64 (0)),
    aF (.bool (jb)),
    aF (.int .i64 (0))]
   F [5,7,8] (λj W=>dG B u0 q T (m) (λS1=>S1=S) W) aV aV [] rfl aH (by simp<;>omega) (λk hk=>⟨by have:=aQ.out k hk;omega,by simp⟩) ⟨λ_=>undef,rfl⟩ (⟨S,pR.out.st.below HK aU.drew,rfl⟩) ?_ ?_ ?_
  ·intro i o hi ho u W hf hold aj jP;have aW:=fw aQ hf jy
   match i,ho with
   |0,ho|4,ho|6,ho=>exact sv ho (bg rfl rfl)
   |1,ho=>exact sv ho (jK rfl (aj 0 rfl))
   |2,ho=>exact sv ho (lU rfl (aj 1 rfl))
   |3,ho=>exact sv ho (lT rfl (aj 2 rfl) (aW.cell 0))
   |5,ho|7,ho|8,ho=>
    exact absurd aH hi
   |9,ho=>exact sv ho (bg rfl (aj 8 rfl))
   |10,ho=>exact sv ho (rQ rfl (aj 9 rfl))
   |11,ho=>exact sv ho (rU rfl (aj 9 rfl))
   |12,ho=>exact sv ho (jo rfl (aj 10 rfl))
   |13,ho=>exact sv ho (jo rfl (aj 11 rfl))
   |n+14,ho=>exact absurd ho aH
  ·intro t i o ht ho u W hf bG aj;have aW:=fw aQ hf jy
   match t,ht with
   |0,ht=>
    have ht:=aA ht;subst ht;obtain rfl:=aA ho;refine⟨aB rfl,Does.call (dH rD rfl (aj 4 rfl)) ?_⟩;obtain⟨S1,hs,hp⟩:=bG;refine aac (nG xa W) ?_;rintro e w' ⟨rfl,hb⟩;exact⟨_,rfl,rfl,rfl, .of_below hb,S1,hs.below HK hb,hp⟩
   |1,ht=>
    have ht:=aA ht;subst ht;obtain rfl:=aA ho;refine⟨aB rfl,Does.call (dH rD rfl (aj 6 rfl)) ?_⟩;obtain⟨S1,hs,hp⟩:=bG;refine aac (nG xb W) ?_;rintro e w' ⟨rfl,hb⟩;exact⟨_,rfl,rfl,rfl, .of_below hb,S1,hs.below HK hb,hp⟩
   |2,ht=>
    have ht:=aA ht;subst ht;obtain rfl:=aA ho;refine⟨aB rfl,Does.call (lQ Pv rfl (aj 3 rfl) (aj 5 rfl) (aj 7 rfl)) ?_⟩;obtain⟨S1,hs,hp⟩:dG B u0 q T (m) (λS1=>S1=S) W:=bG;refine aac (wz.out W (hp ▸ hs)) ?_;rintro e w' ⟨rfl,h1,h2⟩;exact⟨_,rfl,rfl,rfl,h2,_,h1,rfl⟩
   |n+3,ht=>exact absurd ht aH
  ·intro u W hf bG au;have aW:=fw aQ hf jy;have e0:=au.q 0;have e1:=au.q 1;have e2:=au.q 2;have e3:=au.q 3;have e4:=au.q 4;have e5:=au.q 5;have e6:=au.q 6;have e7:=au.q 7;have e8:=au.q 8;have e9:=au.q 9;have e10:=au.q 10;have e11:=au.q 11;have e12:=au.q 12;have e13:=au.q 13;simp only[e0,e1,e2,e3,e4,e5,e6,e7,e8,e9,e10,e11,e12,e13];obtain⟨S1,hs,hp⟩:dG B u0 q T (m) (λS1=>S1=S) W:=bG;have qQ:=ah (pR.out.call HK (show aZ B u0 q T (S) (m) W from hp ▸ hs) hf.nil_);have kL:=ah (l9.out.trans hf.nil_);obtain⟨w2,yY⟩:=aJ (W);rw[<-yY]at qQ kL ⊢;clear au hf hs hp e0 e1 e2 e3 e4 e5 e6 e7 e8 e9 e10 e11 e12 e13 aW yY pR l9  u W;have Rf:=ah qQ.out.bk;have yj:=kL.out.size;go_wp2;go_ret2;exact⟨rfl,qQ,kL⟩
 ·clear mV h K RP hv hs;go_enter func25,ntmps25
  go_wp2_with fail
  refine aac Ep ?_;rintro e w1 ⟨rfl,uw⟩;rw[<-uw]at pR jy l9;have gI:=l9.out.size;clear uw;go_wp2_with fail
  refine aP (λu=>⟨#[_,_,_,_,_,_,_,_,_,u 12,u 13,_,_,_,_,_,_,_,u 9,u 0,u 1,u 2,u 3,u 4,u 5,u 6,u 7,u 8,u 10,u 11,_,_,_,_,_,_,_],_⟩)
   [bf tq 0,
    bf tq 0,
    bf tq 0,
    bf q 0,
    aF (.int .i64 (xa)),
    aF (aG ((xa,xa))),
    aF (.int .i64 (xb)),
    aF (aG ((xb,xb))),
    aF (.tuple #[.bool (jb), .int .i64 (181)]),
    aF (.tuple #[.bool (jb), .int .i64 (181)]),
    aF (.bool (jb)),
    aF (.int .i64 (181)),
    aF (.bool (jb)),
    aF (.int .i64 (181))]
   F [5,7,8] (λj W=>dG B u0 q T (m) (λS1=>S1=S) W) aV aV [] rfl aH (by simp<;>omega) (λk hk=>⟨by have:=aQ.out k hk;omega,by simp⟩) ⟨λ_=>undef,rfl⟩ (⟨S,pR.out.st.below HK aU.drew,rfl⟩) ?_ ?_ ?_
  ·intro i o hi ho u W hf hold aj jP;have aW:=fw aQ hf jy
   match i,ho with
   |0,ho|4,ho|6,ho=>exact sv ho (bg rfl rfl)
   |1,ho=>exact sv ho (jK rfl (aj 0 rfl))
   |2,ho=>exact sv ho (lU rfl (aj 1 rfl))
   |3,ho=>exact sv ho (lT rfl (aj 2 rfl) (aW.cell 0))
   |5,ho|7,ho|8,ho=>
    exact absurd aH hi
   |9,ho=>exact sv ho (bg rfl (aj 8 rfl))
   |10,ho=>exact sv ho (rQ rfl (aj 9 rfl))
   |11,ho=>exact sv ho (rU rfl (aj 9 rfl))
   |12,ho=>exact sv ho (jo rfl (aj 10 rfl))
   |13,ho=>exact sv ho (jo rfl (aj 11 rfl))
   |n+14,ho=>exact absurd ho aH
  ·intro t i o ht ho u W hf bG aj;have aW:=fw aQ hf jy
   match t,ht with
   |0,ht=>
    have ht:=aA ht;subst ht;obtain rfl:=aA ho;refine⟨aB rfl,Does.call (dH rD rfl (aj 4 rfl)) ?_⟩;obtain⟨S1,hs,hp⟩:=bG;refine aac (nG xa W) ?_;rintro e w' ⟨rfl,hb⟩;exact⟨_,rfl,rfl,rfl, .of_below hb,S1,hs.below HK hb,hp⟩
   |1,ht=>
    have ht:=aA ht;subst ht;obtain rfl:=aA ho;refine⟨aB rfl,Does.call (dH rD rfl (aj 6 rfl)) ?_⟩;obtain⟨S1,hs,hp⟩:=bG;refine aac (nG xb W) ?_;rintro e w' ⟨rfl,hb⟩;exact⟨_,rfl,rfl,rfl, .of_below hb,S1,hs.below HK hb,hp⟩
   |2,ht=>
    have ht:=aA ht;subst ht;obtain rfl:=aA ho;refine⟨aB rfl,Does.call (lQ Pv rfl (aj 3 rfl) (aj 5 rfl) (aj 7 rfl)) ?_⟩;obtain⟨S1,hs,hp⟩:dG B u0 q T (m) (λS1=>S1=S) W:=bG;refine aac (wz.out W (hp ▸ hs)) ?_;rintro e w' ⟨rfl,h1,h2⟩;exact⟨_,rfl,rfl,rfl,h2,_,h1,rfl⟩
   |n+3,ht=>exact absurd ht aH
  ·intro u W hf bG au;have aW:=fw aQ hf jy;have e0:=au.q 0;have e1:=au.q 1;have e2:=au.q 2;have e3:=au.q 3;have e4:=au.q 4;have e5:=au.q 5;have e6:=au.q 6;have e7:=au.q 7;have e8:=au.q 8;have e9:=au.q 9;have e10:=au.q 10;have e11:=au.q 11;have e12:=au.q 12;have e13:=au.q 13;simp only[e0,e1,e2,e3,e4,e5,e6,e7,e8,e9,e10,e11,e12,e13];obtain⟨S1,hs,hp⟩:dG B u0 q T (m) (λS1=>S1=S) W:=bG;have qQ:=ah (pR.out.call HK (show aZ B u0 q T (S) (m) W from hp ▸ hs) hf.nil_);have kL:=ah (l9.out.trans hf.nil_);obtain⟨w2,yY⟩:=aJ (W);rw[<-yY]at qQ kL ⊢;clear au hf hs hp e0 e1 e2 e3 e4 e5 e6 e7 e8 e9 e10 e11 e12 e13 aW yY pR l9  u W;have Rf:=ah qQ.out.bk;have yj:=kL.out.size;go_wp2;go_ret2;exact⟨by simp[Bool.beq_eq_decide_eq],qQ,kL⟩
theorem ab4(K:Kv F B u0 T)(h:DC B u0 q tq T S m w){xa xb:Int}(hv:¬ (jO xa/\jO xb)):Calls prog 25 #[.pointer (some ⟨tq,0,none⟩), .int .i64 xa, .int .i64 xb] w λe w'=>e= .returned (.tuple #[.bool false, .int .i64 30])/\DC B u0 q tq T S m w'/\Fr F w w':=by
 have mV:=(aai w.heap.size w).alloc aK (.cells #[.int .i64 xa, .int .i64 xb] 3);have pR:=ah (h.below K mV);have jy:=ah pR.out.bk;have l9:Hid (Fr F w _):=ah (Fr.of_below mV);have RP:=ah (o9 (l:= [xa,xb]) (c:=2) (aO.new w 3 #[.int .i64 xa, .int .i64 xb]) aH);have rF:=h.st.hq;have I5:=h.hq;have lI:=h.bk.lt;have HK:=ah K;have aQ:Hid (∀k,F k->k<B):=ah K.low;have Ep:Hid (Calls _ _ _ _ λe w'=>e= .returned (.int .i64 30)/\w'=_):=ah (by have:=RP.out;rwa [if_neg (by simpa using hv)]at this);clear mV h K RP hv;go_enter func25,ntmps25
 go_wp2_with fail
 refine aac Ep ?_;rintro e w1 ⟨rfl,uw⟩;rw[<-uw]at pR jy l9;have gI:=l9.out.size;clear uw;go_wp2;go_ret2;exact⟨rfl,pR,l9⟩
theorem ai1(K:Kv F B u0 T)(h:DC B u0 q tq T S m w){xa xb:Int}(hv:jO xa/\jO xb)(dL:xa≠xb):Calls prog 26 #[.pointer (some ⟨tq,0,none⟩), .int .i64 xa, .int .i64 xb] w λe w'=>e= .returned (.tuple #[.bool (S (xa,xb)).isSome, .int .i64 0])/\DC B u0 q tq T S m w'/\Fr F w w':=by
 have mV:=(aai w.heap.size w).alloc aK (.cells #[.int .i64 xa, .int .i64 xb] 3);have pR:=ah (h.below K mV);have jy:=ah pR.out.bk;have l9:Hid (Fr F w _):=ah (Fr.of_below mV);have RP:=ah (o9 (l:= [xa,xb]) (c:=2) (aO.new w 3 #[.int .i64 xa, .int .i64 xb]) aH);have rF:=h.st.hq;have I5:=h.hq;have lI:=h.bk.lt;have HK:=ah K;have aQ:Hid (∀k,F k->k<B):=ah K.low;have Ep:Hid (Calls _ _ _ _ λe w'=>e= .returned (.int .i64 0)/\w'=_):=ah (by have:=RP.out;rwa [if_pos (by simpa using hv)]at this);have afz:=ah (λW (hW:aZ B u0 q T S m W)=>UW K hW (k:=(xa,xb)) ⟨hv.1,hv.2⟩);obtain⟨hb,hhb⟩:=aJ ((S (xa,xb)).isSome);rw[<-hhb]at afz ⊢;clear hhb mV h K RP hv;go_enter func26,ntmps26
 go_wp2_with fail
 refine aac Ep ?_;rintro e w1 ⟨rfl,uw⟩;rw[<-uw]at pR jy l9;have gI:=l9.out.size;clear uw;go_wp2_with fail
 refine aP (λu=>⟨#[_,_,_,_,_,_,u 10,u 11,_,_,_,_,_,_,_,_,_,_,_,_,_,u 0,u 1,u 2,u 3,u 4,u 5,u 6,u 7,u 8,u 9],_⟩)
  [bf tq 0,
   bf tq 0,
   bf tq 0,
   bf q 0,
   aF (.int .i64 (xa)),
   aF (.int .i64 (xb)),
   aF (aG ((xa,xb))),
   aF (.tuple #[.bool (hb), .int .i64 (0)]),
   aF (.bool (hb)),
   aF (.int .i64 (0)),
   aF (.bool (hb)),
   aF (.int .i64 (0))]
  F [6,7] (λj W=>dG B u0 q T (m) (λS1=>S1=S) W) aV aV [] rfl aH (by simp<;>omega) (λk hk=>⟨by have:=aQ.out k hk;omega,by simp⟩) ⟨λi=>match i with | 10=> .bool false | 11=> .int .i64 0 | _=>undef,rfl⟩ (⟨S,pR.out.st.below HK aU.drew,rfl⟩) ?_ ?_ ?_
 ·intro i o hi ho u W hf hold aj jP;have aW:=fw aQ hf jy
  match i,ho with
  |0,ho|4,ho|5,ho=>exact sv ho (bg rfl rfl)
  |1,ho=>exact sv ho (jK rfl (aj 0 rfl))
  |2,ho=>exact sv ho (lU rfl (aj 1 rfl))
  |3,ho=>exact sv ho (lT rfl (aj 2 rfl) (aW.cell 0))
  |6,ho|7,ho=>
   exact absurd aH hi
  |8,ho=>exact sv ho (rQ rfl (aj 7 rfl))
  |9,ho=>exact sv ho (rU rfl (aj 7 rfl))
  |10,ho=>exact sv ho (jo rfl (aj 8 rfl))
  |11,ho=>exact sv ho (jo rfl (aj 9 rfl))
  |n+12,ho=>exact absurd ho aH
 ·intro t i o ht ho u W hf bG aj;have aW:=fw aQ hf jy
  match t,ht with
  |0,ht=>
   have ht:=aA ht;subst ht;obtain rfl:=aA ho;refine⟨aB rfl,Does.call (bV aiY rfl (aj 4 rfl) (aj 5 rfl)) ?_⟩;obtain⟨S1,hs,hp⟩:=bG;refine aac (Jk xa xb W) ?_;rintro e w' ⟨rfl,hb⟩;exact⟨_,rfl,rfl,rfl, .of_below hb,S1,hs.below HK hb,hp⟩
  |1,ht=>
   have ht:=aA ht;subst ht;obtain rfl:=aA ho;refine⟨aB rfl,Does.call (bV U4 rfl (aj 3 rfl) (aj 6 rfl)) ?_⟩;obtain⟨S1,hs,hp⟩:dG B u0 q T (m) (λS1=>S1=S) W:=bG;refine aac (afz.out W (hp ▸ hs)) ?_;rintro e w' ⟨rfl,h1,h2⟩;exact⟨_,rfl,rfl,rfl,h2,_,h1,rfl⟩
  |n+2,ht=>exact absurd ht aH
 ·intro u W hf bG au;have aW:=fw aQ hf jy;have e0:=au.q 0;have e1:=au.q 1;have e2:=au.q 2;have e3:=au.q 3;have e4:=au.q 4;have e5:=au.q 5;have e6:=au.q 6;have e7:=au.q 7;have e8:=au.q 8;have e9:=au.q 9;have e10:=au.q 10;have e11:=au.q 11;simp only[e0,e1,e2,e3,e4,e5,e6,e7,e8,e9,e10,e11];obtain⟨S1,hs,hp⟩:dG B u0 q T (m) (λS1=>S1=S) W:=bG;have qQ:=ah (pR.out.call HK (show aZ B u0 q T (S) (m) W from hp ▸ hs) hf.nil_);have kL:=ah (l9.out.trans hf.nil_);obtain⟨w2,yY⟩:=aJ (W);rw[<-yY]at qQ kL ⊢;clear au hf hs hp e0 e1 e2 e3 e4 e5 e6 e7 e8 e9 e10 e11 aW yY pR l9  u W;have Rf:=ah qQ.out.bk;have yj:=kL.out.size;go_wp2;go_ret2;exact⟨rfl,qQ,kL⟩
theorem ai2(K:Kv F B u0 T)(h:DC B u0 q tq T S m w){xa xb:Int}(hv:¬ (jO xa/\jO xb)\/xa=xb):Calls prog 26 #[.pointer (some ⟨tq,0,none⟩), .int .i64 xa, .int .i64 xb] w λe w'=>e= .returned (.tuple #[.bool false, .int .i64 (if jO xa/\jO xb then 0 else 30)])/\DC B u0 q tq T S m w'/\Fr F w w':=by
 have mV:=(aai w.heap.size w).alloc aK (.cells #[.int .i64 xa, .int .i64 xb] 3);have pR:=ah (h.below K mV);have jy:=ah pR.out.bk;have l9:Hid (Fr F w _):=ah (Fr.of_below mV);have RP:=ah (o9 (l:= [xa,xb]) (c:=2) (aO.new w 3 #[.int .i64 xa, .int .i64 xb]) aH);have rF:=h.st.hq;have I5:=h.hq;have lI:=h.bk.lt;have HK:=ah K;have aQ:Hid (∀k,F k->k<B):=ah K.low;by_cases Oq:jO xa/\jO xb
 ·obtain rfl:=hv.resolve_left (λa=>a Oq);have Ep:Hid (Calls _ _ _ _ λe w'=>e= .returned (.int .i64 0)/\w'=_):=ah (by have:=RP.out;rwa [if_pos (by simpa using Oq)]at this);rw[if_pos Oq];clear mV h K RP hv Oq;go_enter func26,ntmps26
  go_wp2_with fail
  refine aac Ep ?_;rintro e w1 ⟨rfl,uw⟩;rw[<-uw]at pR jy l9;have gI:=l9.out.size;clear uw;go_wp2;go_ret2;exact⟨rfl,pR,l9⟩
 ·have Ep:Hid (Calls _ _ _ _ λe w'=>e= .returned (.int .i64 30)/\w'=_):=ah (by have:=RP.out;rwa [if_neg (by simpa using Oq)]at this);rw[if_neg Oq];clear mV h K RP hv Oq;go_enter func26,ntmps26
  go_wp2_with fail
  refine aac Ep ?_;rintro e w1 ⟨rfl,uw⟩;rw[<-uw]at pR jy l9;have gI:=l9.out.size;clear uw;go_wp2;go_ret2;exact⟨rfl,pR,l9⟩
end
section
variable {F:Nat->Prop}{B u0 q tq m:Nat}{T:List bT->Nat->World->Prop}{S:St}{w w':World}
theorem afA(K:Kv F B u0 T)(h:DC B u0 q tq T S m w){v:Int}(hv:¬jO v):Calls prog 13 #[.pointer (some ⟨tq,0,none⟩), .int .i64 v] w λe w'=>e= .returned (.tuple #[.int .i64 0, .int .i64 30])/\DC B u0 q tq T S m w'/\Fr F w w':=by
 have yI:=ah (qF K h v);have rF:=h.st.hq;have I5:=h.hq;have lI:=h.bk.lt;have HK:=ah K;have aQ:Hid (∀k,F k->k<B):=ah K.low;rw[if_neg hv,decide_eq_false hv,Bool.false_and]at yI;clear h K;go_enter func13,ntmps13
 go_wp2_with fail
 refine aac yI ?_;rintro e w1 ⟨rfl,pI,eH⟩;have pR:=ah pI;have l9:=ah eH;have jy:=ah pI.bk;have gI:=eH.size;clear pI eH yI;go_wp2;go_ret2;exact⟨rfl,pR,l9⟩
theorem ab5(K:Kv F B u0 T)(h:DC B u0 q tq T S m w){v:Int}(hv:jO v)(hS:S (v,v)=none):Calls prog 13 #[.pointer (some ⟨tq,0,none⟩), .int .i64 v] w λe w'=>e= .returned (.tuple #[.int .i64 1, .int .i64 0])/\DC B u0 q tq T S m w'/\Fr F w w':=by
 have yI:=ah (qF K h v);have rF:=h.st.hq;have I5:=h.hq;have lI:=h.bk.lt;have HK:=ah K;have aQ:Hid (∀k,F k->k<B):=ah K.low;rw[if_pos hv,decide_eq_true hv,akP,hS]at yI;clear h K;go_enter func13,ntmps13
 go_wp2_with fail
 refine aac yI ?_;rintro e w1 ⟨rfl,pI,eH⟩;have pR:=ah pI;have l9:=ah eH;have jy:=ah pI.bk;have gI:=eH.size;clear pI eH yI;go_wp2;go_ret2;exact⟨rfl,pR,l9⟩
theorem ab6(K:Kv F B u0 T)(h:DC B u0 q tq T S m w){v:Int}(hv:jO v){n0:TN}(hS:S (v,v)=some n0){n:Nat}(hn:n<=1000)(hc:∀W,aZ B u0 q T S m W->Calls prog 44 #[.pointer (some ⟨q,0,none⟩),aG (v,v)] W λe w'=>e= .returned (.tuple #[.int .i64 (n:Nat), .int .i64 0])/\aZ B u0 q T S m w'/\Fr F W w'):Calls prog 13 #[.pointer (some ⟨tq,0,none⟩), .int .i64 v] w λe w'=>e= .returned (.tuple #[.int .i64 (((n+2) / 3:Nat):Int), .int .i64 0])/\DC B u0 q tq T S m w'/\Fr F w w':=by
 have yI:=ah (qF K h v);have rF:=h.st.hq;have I5:=h.hq;have lI:=h.bk.lt;have HK:=ah K;have aQ:Hid (∀k,F k->k<B):=ah K.low;have HC:=ah hc;clear hc;rw[if_pos hv,decide_eq_true hv,akP,hS]at yI;clear h K;go_enter func13,ntmps13
 go_wp2_with fail
 refine aac yI ?_;rintro e w1 ⟨rfl,pI,eH⟩;have pR:=ah pI;have l9:=ah eH;have jy:=ah pI.bk;have gI:=eH.size;clear pI eH yI;go_wp2_with fail
 refine aP (λu=>⟨#[_,_,_,_,_,_,_,u 11,u 10,_,_,_,_,_,_,_,_,_,_,_,_,u 7,u 0,u 1,u 2,u 3,u 4,u 5,u 6,u 8,u 9,_,_,_,_,_,_],_⟩)
  [bf tq 0,
   bf tq 0,
   bf tq 0,
   bf q 0,
   aF (.int .i64 (v)),
   aF (aG ((v,v))),
   aF (.tuple #[.int .i64 ((n:Nat)), .int .i64 (0)]),
   aF (.tuple #[.int .i64 ((n:Nat)), .int .i64 (0)]),
   aF (.int .i64 ((n:Nat))),
   aF (.int .i64 (0)),
   aF (.int .i64 ((n:Nat))),
   aF (.int .i64 (0))]
  F [5,6] (λj W=>dG B u0 q T (m) (λS1=>S1=S) W) aV aV [] rfl aH (by simp<;>omega) (λk hk=>⟨by have:=aQ.out k hk;omega,by simp⟩) ⟨λi=>match i with | 11=> .int .i64 0 | _=>undef,rfl⟩ (⟨S,pR.out.st.below HK aU.drew,rfl⟩) ?_ ?_ ?_
 ·intro i o hi ho u W hf hold aj jP;have aW:=fw aQ hf jy
  match i,ho with
  |0,ho|4,ho=>exact sv ho (bg rfl rfl)
  |1,ho=>exact sv ho (jK rfl (aj 0 rfl))
  |2,ho=>exact sv ho (lU rfl (aj 1 rfl))
  |3,ho=>exact sv ho (lT rfl (aj 2 rfl) (aW.cell 0))
  |5,ho|6,ho=>
   exact absurd aH hi
  |7,ho=>exact sv ho (bg rfl (aj 6 rfl))
  |8,ho=>exact sv ho (rQ rfl (aj 7 rfl))
  |9,ho=>exact sv ho (rU rfl (aj 7 rfl))
  |10,ho=>exact sv ho (jo rfl (aj 8 rfl))
  |11,ho=>exact sv ho (jo rfl (aj 9 rfl))
  |n+12,ho=>exact absurd ho aH
 ·intro t i o ht ho u W hf bG aj;have aW:=fw aQ hf jy
  match t,ht with
  |0,ht=>
   have ht:=aA ht;subst ht;obtain rfl:=aA ho;refine⟨aB rfl,Does.call (dH rD rfl (aj 4 rfl)) ?_⟩;obtain⟨S1,hs,hp⟩:=bG;refine aac (nG v W) ?_;rintro e w' ⟨rfl,hb⟩;exact⟨_,rfl,rfl,rfl, .of_below hb,S1,hs.below HK hb,hp⟩
  |1,ht=>
   have ht:=aA ht;subst ht;obtain rfl:=aA ho;refine⟨aB rfl,Does.call (bV X9 rfl (aj 3 rfl) (aj 5 rfl)) ?_⟩;obtain⟨S1,hs,hp⟩:dG B u0 q T (m) (λS1=>S1=S) W:=bG;refine aac (HC.out W (hp ▸ hs)) ?_;rintro e w' ⟨rfl,h1,h2⟩;exact⟨_,rfl,rfl,rfl,h2,_,h1,rfl⟩
  |n+2,ht=>exact absurd ht aH
 ·intro u W hf bG au;have aW:=fw aQ hf jy;have e0:=au.q 0;have e1:=au.q 1;have e2:=au.q 2;have e3:=au.q 3;have e4:=au.q 4;have e5:=au.q 5;have e6:=au.q 6;have e7:=au.q 7;have e8:=au.q 8;have e9:=au.q 9;have e10:=au.q 10;have e11:=au.q 11;simp only[e0,e1,e2,e3,e4,e5,e6,e7,e8,e9,e10,e11];obtain⟨S1,hs,hp⟩:dG B u0 q T (m) (λS1=>S1=S) W:=bG;have qQ:=ah (pR.out.call HK (show aZ B u0 q T (S) (m) W from hp ▸ hs) hf.nil_);have kL:=ah (l9.out.trans hf.nil_);obtain⟨w2,yY⟩:=aJ (W);rw[<-yY]at qQ kL ⊢;clear au hf hs hp e0 e1 e2 e3 e4 e5 e6 e7 e8 e9 e10 e11 aW yY pR l9  u W;have Rf:=ah qQ.out.bk;have yj:=kL.out.size;have yY:IntKind.i64.wrap ((n:Int)+2)=((n+2:Nat):Int):=by rw[acK _ ak];omega
  have Xu:IntKind.i64.wrap (((n+2:Nat):Int).tdiv 3)=(((n+2) / 3:Nat):Int):=by rw[acK _ (by have:((n+2:Nat):Int).tdiv 3=(((n+2) / 3:Nat):Int):=rfl;omega)];rfl
  go_wp2;go_ret2;exact⟨by congr 3,qQ,kL⟩
end
section
variable {F:Nat->Prop}{B u0 q tq m:Nat}{T:List bT->Nat->World->Prop}{S:St}{w w':World}
theorem ai3(K:Kv F B u0 T)(h:DC B u0 q tq T S m w){v:Int}(hv:¬jO v):Calls prog 27 #[.pointer (some ⟨tq,0,none⟩), .int .i64 v] w λe w'=>e= .returned (.tuple #[.slice none 0 0, .int .i64 30])/\DC B u0 q tq T S m w'/\Fr F w w':=by
 have yI:=ah (qF K h v);have rF:=h.st.hq;have I5:=h.hq;have lI:=h.bk.lt;have HK:=ah K;have aQ:Hid (∀k,F k->k<B):=ah K.low;rw[if_neg hv,decide_eq_false hv,Bool.false_and]at yI;clear h K;go_enter func27,ntmps27
 go_wp2_with fail
 refine aac yI ?_;rintro e w1 ⟨rfl,pI,eH⟩;have pR:=ah pI;have l9:=ah eH;have jy:=ah pI.bk;have gI:=eH.size;clear pI eH yI;go_wp2;go_ret2;exact⟨rfl,pR,l9⟩
theorem afB(K:Kv F B u0 T)(h:DC B u0 q tq T S m w){v:Int}(hv:jO v)(hS:S (v,v)=none):Calls prog 27 #[.pointer (some ⟨tq,0,none⟩), .int .i64 v] w λe w'=>e= .returned (.tuple #[.slice none 0 0, .int .i64 0])/\DC B u0 q tq T S m w'/\Fr F w w':=by
 have yI:=ah (qF K h v);have rF:=h.st.hq;have I5:=h.hq;have lI:=h.bk.lt;have HK:=ah K;have aQ:Hid (∀k,F k->k<B):=ah K.low;rw[if_pos hv,decide_eq_true hv,akP,hS]at yI;clear h K;go_enter func27,ntmps27
 go_wp2_with fail
 refine aac yI ?_;rintro e w1 ⟨rfl,pI,eH⟩;have pR:=ah pI;have l9:=ah eH;have jy:=ah pI.bk;have gI:=eH.size;clear pI eH yI;go_wp2;go_ret2;exact⟨rfl,pR,l9⟩
theorem afC(K:Kv F B u0 T)(h:DC B u0 q tq T S m w){v:Int}(hv:jO v){n0:TN}(hS:S (v,v)=some n0){l:List Tok}(hc:∀W,aZ B u0 q T S m W->Calls prog 56 #[.pointer (some ⟨q,0,none⟩),aG (v,v)] W λe w'=>∃A c,e= .returned (.tuple #[.slice A l.length c, .int .i64 0])/\LO tokE 71 w' W.heap.size (.slice A l.length c) l/\aZ B u0 q T S m w'/\Fr F W w'):Calls prog 27 #[.pointer (some ⟨tq,0,none⟩), .int .i64 v] w λe w'=>∃A c,e= .returned (.tuple #[.slice A l.length c, .int .i64 0])/\LO tokE 71 w' w.heap.size (.slice A l.length c) l/\DC B u0 q tq T S m w'/\Fr F w w':=by
 have yI:=ah (qF K h v);have rF:=h.st.hq;have I5:=h.hq;have lI:=h.bk.lt;have HK:=ah K;have aQ:Hid (∀k,F k->k<B):=ah K.low;have HC:=ah hc;clear hc;rw[if_pos hv,decide_eq_true hv,akP,hS]at yI;clear h K;go_enter func27,ntmps27
 go_wp2_with fail
 refine aac yI ?_;rintro e w1 ⟨rfl,pI,eH⟩;have pR:=ah pI;have l9:=ah eH;have jy:=ah pI.bk;have gI:=eH.size;clear pI eH yI;have pO:w1.cell? ⟨tq,0,none⟩=some (.pointer (some ⟨q,0,none⟩)):=jy.out.cell 0;have arn:=jy.out.lt
 have Wx:Hid (∀W,Below w1.heap.size w1 W->Calls prog 41 #[.int .i64 v] W λe w'=>e= .returned (aG (v,v))/\Below w1.heap.size w1 w'):=ah λW hW=>by
  refine(nG v W).mono ?_;rintro e w' ⟨rfl,hb⟩;exact⟨rfl,hW.trans (hb.mono hW.size)⟩
 have HLS:Hid (∀W,Below w1.heap.size w1 W->Calls prog 56 #[.pointer (some ⟨q,0,none⟩),aG (v,v)] W λe w'=>∃A c,e= .returned (.tuple #[.slice A l.length c, .int .i64 0])/\Hid (LO tokE 71 w' w.heap.size (.slice A l.length c) l)/\Hid (DC B u0 q tq T S m w')/\Hid (Fr F w w')/\w'.cell? ⟨tq,0,none⟩=some (.pointer (some ⟨q,0,none⟩))):=ah λW hW=>by
  have ht:=pR.out.below HK hW;refine(HC.out W ht.st).mono ?_;rintro e w' ⟨A,c,rfl,hr,hs,hf⟩;have ht':=ht.call HK hs hf;exact⟨A,c,rfl,ah (hr.lower (acN gI hW.size)),ah ht',ah ((l9.out.then_ hW).trans hf),ht'.bk.cell 0⟩
 go_wp2_with fail
 go_region_held3 (λW=>W.cell? ⟨tq,0,none⟩=some (.pointer (some ⟨q,0,none⟩))) (first | exact pO | exact MZ | exact Vx)
  (first
  |(go_at_call 41;refine aac (Wx.out _ (by first | exact aU | exact aU.drew)) ?_;rintro e w2 ⟨rfl,bK⟩;have MZ:w2.cell? ⟨tq,0,none⟩=some (.pointer (some ⟨q,0,none⟩)):=(bK.cell (p:=⟨tq,0,none⟩) arn).trans pO)
  |(go_at_call 56;refine aac (HLS.out _ (by first | exact bK | exact bK.drew)) ?_;rintro e w3 ⟨A,c,rfl,AV,vZ,sD,Vx⟩))
 go_wp2;go_ret2;exact⟨A,c,rfl,AV,vZ,sD⟩
end
end Go.Proofs.YtadnmegdbllaoaaGreatDoor
namespace Sq
open Bt
def afD(S:St):Up->Prop
 | .L k r=>Sub S r/\∃n,S k=some n
 | .R l k=>Sub S l/\∃n,S k=some n
def zS:Up->List Tok
 | .L k r=>k::r.list
 | .R l k=>l.list++ [k]
def tot(c:List Up)(A B:Bt):List Tok:=jX c++(A.list++(B.list++nC c))
theorem akB(c:List Up)(A B:Bt)(k:Tok)(r:Bt):tot c A (link B k r)=tot (.L k r::c) A B:=by simp[tot,jX,nC,dD]
theorem akC(c:List Up)(A B:Bt)(l:Bt)(k:Tok):tot c (link l k A) B=tot (.R l k::c) A B:=by simp[tot,jX,nC,dD]
theorem Es:∀ {c:List Up} {u:Up} {x:Tok},u∈c->x∈zS u->x∈jX c\/x∈nC c
 | [],u,x,h,_=>absurd h aaj
 |s::c,u,x,h,hx=>by
  rcases aah.1 h with rfl | h
  ·cases u with
   |L k r=>exact .inr (by simp only[zS]at hx;simp only[nC,aaf];exact .inl hx)
   |R l k=>exact .inl (by simp only[zS]at hx;simp only[jX,aaf];exact .inr (by simpa using hx))
  ·have:=Es h hx
   cases s with
   |L k r=>exact this.imp (λa=>a) λa=>by simp only[nC,aaf];exact .inr a
   |R l k=>exact this.imp (λa=>by simp only[jX,aaf];exact .inl a) λa=>a
theorem afE{S:St} :∀ (c:List Up) (t:Bt),eY S dn (plug t c)->∀u,u∈c->afD S u
 | [],t,_,u,h=>absurd h aaj
 |s::c,t,hh,u,h=>by
  rcases aah.1 h with rfl | h
  ·have:=(yG c (u.on t) hh).2
   cases u with
   |L k r=>
    obtain⟨_,h2,n,h3⟩:=Sub.kids ⟨_,this⟩;exact⟨⟨_,h2⟩,n,h3⟩
   |R l k=>
    obtain⟨h2,_,n,h3⟩:=Sub.kids ⟨_,this⟩;exact⟨⟨_,h2⟩,n,h3⟩
  ·exact afE c (s.on t) hh u h
theorem afD.same{S S':St}{u:Up}{T:List Tok}(h:afD S u)(hs:Same T S S')(hd:∀x,x∈zS u->x ∉ T):afD S' u:=by
 cases u with
 |L k r=>
  obtain⟨h1,n,h2⟩:=h;exact⟨h1.same hs λx hx=>hd x (by simp[zS,hx]),n,(hs k (hd k (by simp[zS]))).trans h2⟩
 |R l k=>
  obtain⟨h1,n,h2⟩:=h;exact⟨h1.same hs λx hx=>hd x (by simp[zS,hx]),n,(hs k (hd k (by simp[zS]))).trans h2⟩
structure PI(S:St)(c:List Up)(A B:Bt):Prop where
 a:Sub S A
 b:Sub S B
 nd:(tot c A B).Nodup
 up:∀u,u∈c->afD S u
section
variable {S S2:St}{c:List Up}{A B l r a b:Bt}{k:Tok}
theorem PI.left(h:PI S (.L k r::c) A B):Sub S r/\(node B k r).list.Nodup/\(∃n,S k=some n)/\B.cnt+r.cnt+1<=(tot (.L k r::c) A B).length/\(∀x,x∈(link B k r).list->x∈tot (.L k r::c) A B)/\∀S2,Mk S S2 (link B k r)->PI S2 c A (link B k r):=by
 obtain⟨h1,h2⟩:=h.up _ aae;have jF:=h.nd;have e:tot (.L k r::c) A B=jX c++(A.list++((node B k r).list++nC c)):=by simp[tot,jX,nC,list]
 have hl:(link B k r).list=(node B k r).list:=dD _ _ _;rw[e]at jF;obtain⟨n1,n2,n3⟩:=apart jF;obtain⟨n4,n5,n6⟩:=apart n2;obtain⟨n7,n8,n9⟩:=apart n5;refine⟨h1,n7,h2, ?_,λx hx=> ?_,λS2 hm=>⟨hm.keep h.a λx hx jB=>n6 x hx (by rw[hl]at jB;simp[jB]),hm.sub,by rw[akB];exact h.nd,λu hu=> ?_⟩⟩
 ·rw[e,dU,dU];simp[list];omega
 ·rw[hl]at hx;rw[e];simp[hx]
 ·refine(h.up u (acF _ hu)).same hm.same λx hx jB=> ?_;rw[hl]at jB;rcases Es hu hx with h3 | h3
  ·exact n3 x h3 (by simp[jB])
  ·exact n9 x jB h3
theorem PI.right(h:PI S (.R l k::c) A B):Sub S l/\(node l k A).list.Nodup/\(∃n,S k=some n)/\l.cnt+A.cnt+1<=(tot (.R l k::c) A B).length/\(∀x,x∈(link l k A).list->x∈tot (.R l k::c) A B)/\∀S2,Mk S S2 (link l k A)->PI S2 c (link l k A) B:=by
 obtain⟨h1,h2⟩:=h.up _ aae;have jF:=h.nd;have e:tot (.R l k::c) A B=jX c++((node l k A).list++(B.list++nC c)):=by simp[tot,jX,nC,list]
 have hl:(link l k A).list=(node l k A).list:=dD _ _ _;rw[e]at jF;obtain⟨n1,n2,n3⟩:=apart jF;obtain⟨n4,n5,n6⟩:=apart n2;obtain⟨n7,n8,n9⟩:=apart n5;refine⟨h1,n4,h2, ?_,λx hx=> ?_,λS2 hm=>⟨hm.sub,hm.keep h.b λx hx jB=>n6 x (hl ▸ jB) (by simp[hx]),by rw[akC];exact h.nd,λu hu=> ?_⟩⟩
 ·rw[e,dU,dU];simp[list];omega
 ·rw[hl]at hx;rw[e];simp[hx]
 ·refine(h.up u (acF _ hu)).same hm.same λx hx jB=> ?_;rw[hl]at jB;rcases Es hu hx with h3 | h3
  ·exact n3 x h3 (by simp[jB])
  ·exact n6 x jB (by simp[h3])
theorem afF(h:eY S dn (plug (node a k b) c))(hn:(plug (node a k b) c).list.Nodup):Sub S b/\(node .nil k b).list.Nodup/\(∃n,S k=some n)/\tot c a (link .nil k b)=(plug (node a k b) c).list/\∀S2,Mk S S2 (link .nil k b)->PI S2 c a (link .nil k b):=by
 have hk:=Sub.kids ⟨_,(yG c (node a k b) h).2⟩;have e:tot c a (link .nil k b)=(plug (node a k b) c).list:=by simp[tot,jh,dD,list]
 have hl:(link .nil k b).list=k::b.list:=dD _ _ _;have jF:=hn;rw[<-e,tot,hl]at jF;obtain⟨n1,n2,n3⟩:=apart jF;obtain⟨n4,n5,n6⟩:=apart n2;obtain⟨n7,n8,n9⟩:=apart n5;refine⟨⟨_,hk.2.1⟩,by simpa[list]using n7,hk.2.2,e,λS2 hm=>⟨hm.keep ⟨_,hk.1⟩ λx hx jB=>n6 x hx (by rw[hl]at jB;exact acM _ jB),hm.sub,by rw[e];exact hn,λu hu=> ?_⟩⟩;refine(afE c _ h u hu).same hm.same λx hx jB=> ?_;rw[hl]at jB;rcases Es hu hx with h3 | h3
 ·exact n3 x h3 (acL _ (acM _ jB))
 ·exact n9 x jB h3
theorem ab7(h:eY S dn (plug (node a k b) c))(hn:(plug (node a k b) c).list.Nodup):Sub S a/\(node a k .nil).list.Nodup/\(∃n,S k=some n)/\tot c (link a k .nil) b=(plug (node a k b) c).list/\∀S2,Mk S S2 (link a k .nil)->PI S2 c (link a k .nil) b:=by
 have hk:=Sub.kids ⟨_,(yG c (node a k b) h).2⟩;have e:tot c (link a k .nil) b=(plug (node a k b) c).list:=by simp[tot,jh,dD,list]
 have hl:(link a k .nil).list=a.list++ [k]:=dD _ _ _;have jF:=hn;rw[<-e,tot,hl]at jF;obtain⟨n1,n2,n3⟩:=apart jF;obtain⟨n4,n5,n6⟩:=apart n2;refine⟨⟨_,hk.1⟩,by simpa[list]using n4,hk.2.2,e,λS2 hm=>⟨hm.sub,hm.keep ⟨_,hk.2.1⟩ λx hx jB=>n6 x (hl ▸ jB) (acM _ hx),by rw[e];exact hn,λu hu=> ?_⟩⟩;refine(afE c _ h u hu).same hm.same λx hx jB=> ?_;rw[hl]at jB;rcases Es hu hx with h3 | h3
 ·exact n3 x h3 (acM _ jB)
 ·exact n6 x jB (acL _ h3)
theorem qG{S:St} :∀ (c:List Up) (a:Bt) (k:Tok) (b:Bt),eY S dn (plug (node a k b) c)->∀p,p∈path a k b c->p.2.left=dn\/∃n',S p.2.left=some n'
 |c,a,k,b,h,p,hp=>by
  have hd:p=(k,nd (yF c) a b)->p.2.left=dn\/∃n',S p.2.left=some n':=λe=>by
   subst e;have:=(Sub.kids ⟨_,(yG c (node a k b) h).2⟩).1
   cases a with
   |nil=>exact .inl rfl
   |node l k2 r=>exact .inr ⟨_,this.1⟩
  cases c with
  |nil=>exact hd (by simpa[path,yF]using hp)
  |cons s c=>
   cases s with
   |L k' r=>
    rcases aah.1 hp with hp | hp
    ·exact hd hp
    ·exact qG c (node a k b) k' r h p hp
   |R l k'=>
    rcases aah.1 hp with hp | hp
    ·exact hd hp
    ·exact qG c l k' (node a k b) h p hp
theorem Lr{x:Tok}{p q p' q':List Tok}(h:p++x::q=p'++x::q')(hn:(p++x::q).Nodup):p=p'/\q=q':=by
 rcases List.append_eq_append_iff.1 h with⟨z,e1,e2⟩ | ⟨z,e1,e2⟩
 ·cases z with
  |nil=>
   simp at e2;exact⟨by simpa using e1.symm,e2⟩
  |cons y z=>
   injection e2 with e2 e3;subst e2;rw[e3]at hn;exact absurd (acL z aae) (acZ.1 (acG.1 hn).2.1).1
 ·cases z with
  |nil=>
   simp at e2;exact⟨by simpa using e1,e2.symm⟩
  |cons y z=>
   injection e2 with e2 e3;subst e2;rw[e1,List.append_assoc]at hn;have h1:=(acG.1 hn).2.1;rw[List.cons_append,acZ]at h1;exact absurd (acL z aae) h1.1
end
end Sq
namespace Go.Proofs.YtadnmegdbllaoaaGreatDoor
open Go.RowKit Go.Shelf Sq Tryz
section
variable {F:Nat->Prop}{B u0 q m:Nat}{T:List bT->Nat->World->Prop}{S:St}{w w':World}
theorem U5{α:Type}{l z:List α}{j:Nat}{x y:α}(h:l.drop j=x::y::z):∃h1:j+1<l.length,l[j]=x/\l[j+1]=y/\l.drop (j+1)=y::z:=by
 have hl:=congrArg List.length h;simp only[acP,acH]at hl;have h1:j+1<l.length:=by omega
 rw[ade ak]at h;injection h with h2 h3;have h4:=h3;rw[ade h1]at h4;injection h4 with h4 _;exact⟨h1,h2,h4,h3⟩
theorem ai4{A Bb:Bt}(h:PI S [] A Bb):Sub (hgS S dn A) Bb/\eY (hgS (hgS S dn A) dn Bb) dn A/\eY (hgS (hgS S dn A) dn Bb) dn Bb/\Same (tot [] A Bb) S (hgS (hgS S dn A) dn Bb):=by
 have e:tot [] A Bb=A.list++Bb.list:=by simp[tot,jX,nC]
 have hn:=h.nd;rw[e]at hn;obtain⟨n1,n2,n3⟩:=apart hn;have h1:Sub (hgS S dn A) Bb:=h.b.same (uf _ _ _) λx hx jB=>n3 x jB hx;refine⟨h1,(zN h.a n1).same (uf _ _ _) n3,zN h1 n2, ?_⟩;rw[e];exact((uf S dn A).more λx hx=>acM _ hx).trans ((uf _ dn Bb).more λx hx=>acL _ hx)
theorem LS.step2{w:World}{Bd:Nat}{A:Option Addr}{l:List (Tok × TN)}(h:LS ug w Bd A l){j jj:Nat}(hjj:jj=j+1){x y:Tok × TN}(hj:j+1<l.length)(e0:l[j]=x)(e1:l[j+1]=y):∃b off,A=some ⟨b,off,none⟩/\b<Bd/\w.cell? ⟨b,off+j*10,none⟩=some (.int .i64 x.1.1)/\w.cell? ⟨b,off+j*10+1,none⟩=some (.int .i64 x.1.2)/\w.cell? ⟨b,off+jj*10,none⟩=some (.int .i64 y.1.1)/\w.cell? ⟨b,off+jj*10+1,none⟩=some (.int .i64 y.1.2)/\w.cell? ⟨b,off+jj*10+2,none⟩=some (.int .i64 y.2.up.1)/\w.cell? ⟨b,off+jj*10+3,none⟩=some (.int .i64 y.2.up.2)/\w.cell? ⟨b,off+jj*10+4,none⟩=some (.int .i64 y.2.left.1)/\w.cell? ⟨b,off+jj*10+5,none⟩=some (.int .i64 y.2.left.2)/\w.cell? ⟨b,off+jj*10+6,none⟩=some (.int .i64 y.2.right.1)/\w.cell? ⟨b,off+jj*10+7,none⟩=some (.int .i64 y.2.right.2)/\w.cell? ⟨b,off+jj*10+8,none⟩=some (.int .i64 y.2.count)/\w.cell? ⟨b,off+jj*10+9,none⟩=some (.int .i64 y.2.height):=by
 subst hjj e0 e1;obtain⟨b,off,rfl,hb,hc⟩:=h.at_ (k:=j) ak;obtain⟨b2,off2,e,_,hd⟩:=h.at_ hj;injection e with e;injection e with e1 e2;subst e1 e2;exact⟨b,off,rfl,hb,hc 0 ay,hc 1 ay,hd 0 ay,hd 1 ay,hd 2 ay,hd 3 ay,hd 4 ay,hd 5 ay,hd 6 ay,hd 7 ay,hd 8 ay,hd 9 ay⟩
theorem U6(K:Kv F B u0 T)(h:aZ B u0 q T S m w){a b A Bb:Bt}{k:Tok}{c:List Up}{l:List (Tok × TN)}(hl:l=path a k b c){base cp:Nat}{Ad:Option Addr}(VT:LO ug 168 w base (.slice Ad l.length cp) l)(hbs:B<=base)(hn:(plug (Bt.node a k b) c).list.Nodup)(hv:∀p,p∈l->p.1≠dn)(hp:PI S c A Bb)(ht:(tot c A Bb).length<=250)(hlen:l.length<=250)(h1:(parts A Bb c).1≠Bt.nil)(h2:(parts A Bb c).2≠Bt.nil):
  Calls prog 96 #[.pointer (some ⟨q,0,none⟩), .slice Ad l.length cp,aG A.rt,aG Bb.rt] w λe w'=>e= .returned (.tuple #[])/\∃S',aZ B u0 q T S' m w'/\eY S' dn (parts A Bb c).1/\eY S' dn (parts A Bb c).2/\Same (tot c A Bb) S S'/\Fr F w w':=by
 obtain⟨tt,Jy⟩:=aJ (tot c A Bb);obtain⟨pp,MV⟩:=aJ (parts A Bb c);obtain⟨t,Oh⟩:=aJ (plug (Bt.node a k b) c);rw[<-Jy]at ht ⊢;rw[<-MV]at h1 h2 ⊢;rw[<-Oh]at hn;have HI0:Hid (l.drop 0=path a k b c/\plug (Bt.node a k b) c=t/\PI S c A Bb/\tot c A Bb=tt/\parts A Bb c=pp/\Same tt S S):=ah ⟨hl,Oh.symm,hp,Jy.symm,MV.symm,Same.refl _ _⟩;have x2:=((Sx.start (F:=F) h).new K 71 (aI A.rt)).new K 71 (aI Bb.rt);rw[aad]at x2;have HX0:=ah x2;have HR:=ah VT;have HN:=ah hn;have HV:=ah hv;have HT:=ah ht;have HK:=ah K;have H1:=ah h1;have H2:=ah h2;have zX:=x2.lo;have hql:=x2.ql;have HFB:Hid (∀k,F k->k<base):=ah λk a=>by have:=K.low k a;omega
 obtain⟨tA,GN⟩:=aJ (A.rt);obtain⟨tB,GR⟩:=aJ (Bb.rt);rw[<-GN, <-GR];rw[<-GN, <-GR]at HX0;have HTA:=ah GN;have HTB:=ah GR;clear x2 h hl VT hn hv hp ht h1 h2 Jy MV Oh GN GR;go_enter func96,ntmps96
 go_wp2
 go_loopw [8] (λi wr=>∃ (jj j:Nat) (a1:Bt) (k1:Tok) (b1:Bt) (c1:List Up) (A1 B1:Bt) (S1:St),i= .int .i64 (jj:Nat)/\Hid (jj=j+1)/\Hid (l.drop j=path a1 k1 b1 c1/\plug (Bt.node a1 k1 b1) c1=t/\PI S1 c1 A1 B1/\tot c1 A1 B1=tt/\parts A1 B1 c1=pp/\Same tt S S1)/\Hid (Sx F B u0 q T w S1 m wr [(w.heap.size+1,71,aI B1.rt),(w.heap.size,71,aI A1.rt)])) (λi _=>l.length-(intOf i).toNat)
 case atStart=>exact⟨1,0,a,k,b,c,A,Bb,S,rfl,ah rfl,HI0,by rw[<-HTA.out, <-HTB.out];exact HX0⟩
 case round=>
  obtain⟨jj,j,a1,k1,b1,c1,A1,B1,S1,rfl,HJ,HI,HX⟩:=hrel;have Oe:=HX.out.fr.size
  cases c1 with
  |nil=>
   obtain⟨hdr,_,hPI,Jy,MV,P5⟩:=HI.out
   have hjl:¬ (jj:Int)<(l.length:Int):=by
    have:=congrArg List.length hdr;simp only[acP,path,acH,List.length_nil]at this;have:=HJ.out;omega
   have hA:A1≠Bt.nil:=λe=>H1.out (by rw[<-MV];exact e);have hB:B1≠Bt.nil:=λe=>H2.out (by rw[<-MV];exact e);obtain⟨d1,d2,d3,d4⟩:=ai4 hPI;have HR1:=ah (λW (hW:aZ B u0 q T S1 m W)=>Le K hW hPI.a hA);have Z4:=ah (λW (hW:aZ B u0 q T (hgS S1 dn A1) m W)=>Le K hW d1 hB);have Dh:Hid (eY (hgS (hgS S1 dn A1) dn B1) dn pp.1/\eY (hgS (hgS S1 dn A1) dn B1) dn pp.2/\Same tt S (hgS (hgS S1 dn A1) dn B1)):=ah ⟨by rw[<-MV];exact d2,by rw[<-MV];exact d3,P5.trans (by rw[<-Jy];exact d4)⟩;obtain⟨ra,hra⟩:=aJ (A1.rt);obtain⟨rb,hrb⟩:=aJ (B1.rt);rw[<-hra]at HX HR1;rw[<-hrb]at HX Z4;obtain⟨l0,l1,ll⟩:=HX.out.tok 1;clear hdr hPI Jy MV P5 hA hB d1 d2 d3 d4 hra hrb HI H1 H2 HJ;obtain⟨w3,Xu⟩:=aJ (wr);rw[<-Xu]at HX l0 l1 ll Oe ⊢;have aro:=ah (HR1.out _ HX.out.st);clear Xu wr HR1;go_wp2_with fail
   refine aac aro ?_;rintro e w4 ⟨rfl,YB,sW⟩;have x4:=HX.out.call HK YB sW;obtain⟨r0,r1,lr⟩:=x4.tok 0;have uJ:=ah x4;have arp:=ah (Z4.out _ YB);clear YB sW x4 HX aro Z4 l0 l1;go_wp2_with fail
   refine aac arp ?_;rintro e w5 ⟨rfl,MS,Iz⟩;have vV:=ah (uJ.out.call HK MS Iz);clear MS Iz uJ arp r0 r1;go_wp2
   go_end0
   exact⟨rfl,_,vV.out.st,Dh.out.1,Dh.out.2.1,Dh.out.2.2,vV.out.fr⟩
  |cons s c2=>
  cases s with
  |L k' r=>
   obtain⟨hdr,Cb,hPI,Jy,MV,P5⟩:=HI.out;obtain⟨hsr,jF,hex,hct,pW,ZI⟩:=hPI.left;obtain⟨z,hz⟩:=jE c2 (Bt.node a1 k1 b1) k' r;have Ya:=hdr;rw[path,hz]at Ya;obtain⟨Rx,e0,e1,e2⟩:=U5 Ya;have hjl:jj<l.length:=by have:=HJ.out;omega
   have hwj:IntKind.i64.wrap ((jj:Int)-1)=(j:Int):=by rw[HJ.out,acK _ ak];omega
   have awx:IntKind.i64.wrap ((jj:Int)+1)=((jj+1:Nat):Int):=by rw[acK _ ak];rfl
   have hjj:(jj:Int)<(l.length:Int):=by omega
   have hjp:(j:Int)<(l.length:Int):=by omega
   obtain⟨bb,oo,rfl,rJ,s0,s1,t0,t1,t2,t3,t4,t5,t6,t7,t8,t9⟩:=(HR.out.fr HX.out.fr HFB).ls.step2 HJ Rx e0 e1
   have hkn:(k1:Tok)≠dn:=by
    have:=HV.out _ (acT (show j<l.length by omega))
    rwa [e0]at this
   have Iq:=ah (λW (hW:aZ B u0 q T S1 m W)=>link_any K hW hPI.b hsr jF hex (acN hct (by rw[Jy];exact HT)));obtain⟨rt,gy⟩:=aJ (r.rt);obtain⟨tA,GN⟩:=aJ (A1.rt);obtain⟨tB,GR⟩:=aJ (B1.rt);obtain⟨nn,BU⟩:=aJ (nd (yF c2) (Bt.node a1 k1 b1) r);have Nh:nn.left=k1:=by rw[BU];rfl
   have uF:nn.right=rt:=by rw[BU,gy];rfl
   rw[<-BU]at t2 t3 t4 t5 t6 t7 t8 t9;rw[Nh]at t4 t5;rw[uF]at t6 t7;unfold EY at Iq;rw[<-gy, <-GR]at Iq;obtain⟨tL,lI⟩:=aJ (link B1 k' r);rw[<-lI]at Iq ZI pW;have HNX:=ah ZI;have HIN:=ah pW;have HE2:=ah e2;have HZ2:=ah hz;have HTL:=ah lI;have HTT:=ah Jy;have HPP:=ah MV;have wz:=ah P5;have HPL:=ah Cb;obtain⟨r0,r1,lr⟩:=HX.out.tok 0;obtain⟨l0,l1,ll⟩:=HX.out.tok 1;rw[<-GR]at r0 r1;rw[<-GN]at l0 l1;obtain⟨_,q1,lq⟩:=HX.out.err;have x1:=HX.out.new HK 168 #[.int .i64 k'.1, .int .i64 k'.2, .int .i64 nn.up.1, .int .i64 nn.up.2, .int .i64 k1.1, .int .i64 k1.2, .int .i64 rt.1, .int .i64 rt.2, .int .i64 nn.count, .int .i64 nn.height];have vW:=ah x1;obtain⟨wa,hwa⟩:=aJ (wr.alloc (.cells #[.int .i64 k'.1, .int .i64 k'.2, .int .i64 nn.up.1, .int .i64 nn.up.2, .int .i64 k1.1, .int .i64 k1.2, .int .i64 rt.1, .int .i64 rt.2, .int .i64 nn.count, .int .i64 nn.height] 168));rw[<-hwa]at vW;have arq:=ah GN;have ars:=ah GR;clear hdr Cb hPI Jy MV P5 hsr jF hex hct pW ZI hz Ya e0 e1 e2 hkn gy GN GR BU Nh uF lI x1;go_wp2
   go_quiet (fail)
   rw[<-hwa];obtain⟨w5,oI⟩:=aJ (wa.drewN nq);rw[<-oI];have x5:Sx F B u0 q T w S1 m w5 _:=oI ▸ vW.out.low HK (below_drewN aU nq);have a0:w5.cell? ⟨wr.heap.size,0,none⟩=some (.int .i64 k'.1):=(x5.at_ 0).cell 0;have a1c:w5.cell? ⟨wr.heap.size,1,none⟩=some (.int .i64 k'.2):=(x5.at_ 0).cell 1;have a2:w5.cell? ⟨wr.heap.size,6,none⟩=some (.int .i64 rt.1):=(x5.at_ 0).cell 6;have a3:w5.cell? ⟨wr.heap.size,7,none⟩=some (.int .i64 rt.2):=(x5.at_ 0).cell 7;have la5:=(x5.at_ 0).lt;obtain⟨y0,y1,ly⟩:=x5.tok 1;rw[<-ars.out]at y0 y1;have vV:=ah x5;have afG:=ah (Iq.out _ x5.st);clear x5 oI hwa vW Iq s0 s1 t0 t1 t2 t3 t4 t5 t6 t7 t8 t9 r0 r1 l0 l1 q1 lq lr ll;go_wp2_with fail
   refine aac afG ?_;rintro e w6 ⟨rfl,⟨S2,Jw,hm⟩,wZ⟩;have x6:=vV.out.call HK Jw wZ;obtain⟨z0,z1,lz⟩:=x6.tok 1;have fz:=(x6.at_ 1).frozen;have fz0:=fz 0;have fz1:=fz 1;obtain⟨rL,GL⟩:=aJ (tL.rt);rw[<-GL];have Cj:=ah (x6.jg HK 1 rL).tail;have HM:=ah hm;have HRL:=ah GL;clear Jw wZ hm x6 vV afG a0 a1c a2 a3 y0 y1 GL fz;go_wp2
   go_roundw
   case rel=>exact⟨jj+1,j+1,(Bt.node a1 k1 b1),k',r,c2,A1,tL,S2,by go_num,ah (by have:=HJ.out;omega),ah ⟨HE2.out.trans HZ2.out.symm,HPL,HNX S2 HM,by rw[HTL.out];exact(akB c2 A1 B1 k' r).trans HTT,by rw[HTL.out];exact HPP,wz.out.trans (HM.out.same.more λx hx=>by rw[<-HTT.out];exact HIN x hx)⟩,by rw[<-HRL.out];exact Cj⟩
   case measure=>simp[intOf];omega
  |R r k'=>
   obtain⟨hdr,Cb,hPI,Jy,MV,P5⟩:=HI.out;obtain⟨hsr,jF,hex,hct,pW,ZI⟩:=hPI.right;obtain⟨z,hz⟩:=jE c2 r k' (Bt.node a1 k1 b1);have Ya:=hdr;rw[path,hz]at Ya;obtain⟨Rx,e0,e1,e2⟩:=U5 Ya;have hjl:jj<l.length:=by have:=HJ.out;omega
   have hwj:IntKind.i64.wrap ((jj:Int)-1)=(j:Int):=by rw[HJ.out,acK _ ak];omega
   have awx:IntKind.i64.wrap ((jj:Int)+1)=((jj+1:Nat):Int):=by rw[acK _ ak];rfl
   have hjj:(jj:Int)<(l.length:Int):=by omega
   have hjp:(j:Int)<(l.length:Int):=by omega
   obtain⟨bb,oo,rfl,rJ,s0,s1,t0,t1,t2,t3,t4,t5,t6,t7,t8,t9⟩:=(HR.out.fr HX.out.fr HFB).ls.step2 HJ Rx e0 e1
   have hkn:(k1:Tok)≠dn:=by
    have:=HV.out _ (acT (show j<l.length by omega))
    rwa [e0]at this
   have Iq:=ah (λW (hW:aZ B u0 q T S1 m W)=>link_any K hW hsr hPI.a jF hex (acN hct (by rw[Jy];exact HT)))
   have hkr:¬ (k1:Tok)=r.rt:=λe=>by
    have hn:=HN.out;rw[<-Cb,show plug (Bt.node a1 k1 b1) (.R r k'::c2)=plug (Bt.node r k' (Bt.node a1 k1 b1)) c2 from rfl,jh,acG]at hn;obtain⟨_,_,_,_,h5⟩:=Sq.nodup_node (acG.1 hn.2.1).1
    cases r with
    |nil=>exact hkn e
    |node l2 k2 r2=>exact h5 k1 (by rw[e];simp[Bt.rt,Bt.list]) (by simp[Bt.list])
   obtain⟨rt,gy⟩:=aJ (r.rt);obtain⟨tA,GN⟩:=aJ (A1.rt);obtain⟨tB,GR⟩:=aJ (B1.rt);obtain⟨nn,BU⟩:=aJ (nd (yF c2) r (Bt.node a1 k1 b1));have Nh:nn.left=rt:=by rw[BU,gy];rfl
   have uF:nn.right=k1:=by rw[BU];rfl
   rw[<-BU]at t2 t3 t4 t5 t6 t7 t8 t9;rw[Nh]at t4 t5;rw[uF]at t6 t7;unfold EY at Iq;rw[<-gy, <-GN]at Iq;obtain⟨tL,lI⟩:=aJ (link r k' A1);rw[<-lI]at Iq ZI pW;have HNX:=ah ZI;have HIN:=ah pW;have HE2:=ah e2;have HZ2:=ah hz;have HTL:=ah lI;have HTT:=ah Jy;have HPP:=ah MV;have wz:=ah P5;have HPL:=ah Cb;obtain⟨r0,r1,lr⟩:=HX.out.tok 0;obtain⟨l0,l1,ll⟩:=HX.out.tok 1;rw[<-GR]at r0 r1;rw[<-GN]at l0 l1;obtain⟨_,q1,lq⟩:=HX.out.err
   have awy:¬k1.1=rt.1\/¬k1.2=rt.2:=by
    by_cases e:k1.1=rt.1
    ·exact .inr λe2=>hkr (by rw[<-gy];exact Prod.ext e e2)
    ·exact .inl e
   have x1:=HX.out.new HK 168 #[.int .i64 k'.1, .int .i64 k'.2, .int .i64 nn.up.1, .int .i64 nn.up.2, .int .i64 rt.1, .int .i64 rt.2, .int .i64 k1.1, .int .i64 k1.2, .int .i64 nn.count, .int .i64 nn.height];have vW:=ah x1;obtain⟨wa,hwa⟩:=aJ (wr.alloc (.cells #[.int .i64 k'.1, .int .i64 k'.2, .int .i64 nn.up.1, .int .i64 nn.up.2, .int .i64 rt.1, .int .i64 rt.2, .int .i64 k1.1, .int .i64 k1.2, .int .i64 nn.count, .int .i64 nn.height] 168));rw[<-hwa]at vW;have arq:=ah GN;have ars:=ah GR;clear hdr Cb hPI Jy MV P5 hsr jF hex hct pW ZI hz Ya e0 e1 e2 hkn gy GN GR BU Nh uF lI x1 hkr;rcases awy with vg | vg
   all_goals
    go_wp2
    go_quiet (fail)
    rw[<-hwa];obtain⟨w5,oI⟩:=aJ (wa.drewN nq);rw[<-oI];have x5:Sx F B u0 q T w S1 m w5 _:=oI ▸ vW.out.low HK (below_drewN aU nq);have a0:w5.cell? ⟨wr.heap.size,0,none⟩=some (.int .i64 k'.1):=(x5.at_ 0).cell 0;have a1c:w5.cell? ⟨wr.heap.size,1,none⟩=some (.int .i64 k'.2):=(x5.at_ 0).cell 1;have a2:w5.cell? ⟨wr.heap.size,4,none⟩=some (.int .i64 rt.1):=(x5.at_ 0).cell 4;have a3:w5.cell? ⟨wr.heap.size,5,none⟩=some (.int .i64 rt.2):=(x5.at_ 0).cell 5;have la5:=(x5.at_ 0).lt;obtain⟨y0,y1,ly⟩:=x5.tok 2;rw[<-arq.out]at y0 y1;have vV:=ah x5;have afG:=ah (Iq.out _ x5.st);clear x5 oI hwa vW Iq s0 s1 t0 t1 t2 t3 t4 t5 t6 t7 t8 t9 r0 r1 l0 l1 q1 lq lr ll;go_wp2_with fail
    refine aac afG ?_;rintro e w6 ⟨rfl,⟨S2,Jw,hm⟩,wZ⟩;have x6:=vV.out.call HK Jw wZ;obtain⟨z0,z1,lz⟩:=x6.tok 2;have fz:=(x6.at_ 2).frozen;have fz0:=fz 0;have fz1:=fz 1;obtain⟨rL,GL⟩:=aJ (tL.rt);rw[<-GL];have Cj:=ah (x6.jg HK 2 rL).tail;have HM:=ah hm;have HRL:=ah GL;clear Jw wZ hm x6 vV afG a0 a1c a2 a3 y0 y1 GL fz;go_wp2
    go_roundw
    case rel=>exact⟨jj+1,j+1,r,k',(Bt.node a1 k1 b1),c2,tL,B1,S2,by go_num,ah (by have:=HJ.out;omega),ah ⟨HE2.out.trans HZ2.out.symm,HPL,HNX S2 HM,by rw[HTL.out];exact(akC c2 A1 B1 r k').trans HTT,by rw[HTL.out];exact HPP,wz.out.trans (HM.out.same.more λx hx=>by rw[<-HTT.out];exact HIN x hx)⟩,by rw[<-HRL.out];exact Cj⟩
    case measure=>simp[intOf];omega
end
section
variable {F:Nat->Prop}{B u0 q m:Nat}{T:List bT->Nat->World->Prop}{S:St}{w w':World}
theorem U7:∀args w,(callFunc 96 args).run prog w= .ok (.enter 96 args) w:=λargs w=>by kernel_rfl
theorem Fr.U8(h:Fr (λk=>F k\/k∈([]:List Nat)) w w'):Fr F w w':=h.more λ_ a=>a.elim id λa=>absurd a aaj
theorem Same.akD{T1 T2:List Tok}{S1 S2:St}(h:Same T1 S S1)(hT:∀x,x∈T1->x∈T2)(h2:Same T2 S1 S2):Same T2 S S2:=(h.more hT).trans h2
theorem wR{ty:TypeId}{base bb oo n c:Nat}{l:List (Tok × TN)}{k ta tb:Tok}(h:LO ug ty w base (.slice (some ⟨bb,oo,none⟩) n c) l)(hl:∃ (n0:TN) (z0:List (Tok × TN)),l=(k,n0)::z0/\n0.left=ta/\n0.right=tb):
  w.cell? ⟨bb,oo+2+2,none⟩=some (.int .i64 ta.1)/\w.cell? ⟨bb,oo+2+2+1,none⟩=some (.int .i64 ta.2)/\w.cell? ⟨bb,oo+2+4,none⟩=some (.int .i64 tb.1)/\w.cell? ⟨bb,oo+2+4+1,none⟩=some (.int .i64 tb.2):=by
 obtain⟨n0,z0,rfl,rfl,rfl⟩:=hl;obtain⟨b,off,e,_,hc⟩:=h.ls.at_ (k:=0) aH;injection e with e;injection e with e1 e2;subst e1 e2;have e:∀j,oo+0*ug.size+j=oo+j:=λj=>by simp
 have c4:=hc 4 ay;have c5:=hc 5 ay;have c6:=hc 6 ay;have c7:=hc 7 ay;rw[e]at c4 c5 c6 c7;exact⟨c4,c5,c6,c7⟩
theorem split_ok(K:Kv F B u0 T)(h:aZ B u0 q T S m w){a b:Bt}{k:Tok}{c:List Up}(ht:eY S dn (plug (Bt.node a k b) c))(hn:(plug (Bt.node a k b) c).list.Nodup)(hc:(plug (Bt.node a k b) c).cnt<=249)(dL:jX c++a.list≠ []):
  Calls prog 69 #[.pointer (some ⟨q,0,none⟩),aG k] w λe w'=>e= .returned (.int .i64 0)/\(∃S',aZ B u0 q T S' m w'/\eY S' dn (parts a (link .nil k b) c).1/\eY S' dn (parts a (link .nil k b) c).2/\Same (plug (Bt.node a k b) c).list S S')/\Fr F w w':=by
 have hSn:∀x n,S x=some n->x≠dn:=λx n hx=>(h.ok x n hx).1.ne;obtain⟨z,hz⟩:=jE c a k b;have uD:=xY c a k b ht;have Dw:=tY c a k b;have qP:=xR c (Bt.node a k b);have Gv:(Bt.node a k b).cnt=a.cnt+b.cnt+1:=rfl;have iD:=qG c a k b ht;have Fa:=Ej hSn c a k b ht hn;obtain⟨p1,p2,p3,p4,p5⟩:=afF ht hn;have Cb:=qB c a (link .nil k b);have nH:=Bt.dU (plug (Bt.node a k b) c);have wS:=jh c (Bt.node a k b);have e1:(parts a (link .nil k b) c).1≠Bt.nil:=λe=>by rw[e]at Cb;exact dL Cb.1.symm
 have e2:(parts a (link .nil k b) c).2≠Bt.nil:=λe=>by rw[e]at Cb;have:=Cb.2;rw[dD]at this;simp[Bt.list]at this
 have GL:(jX c++a.list).length+1+(b.list++nC c).length=(plug (Bt.node a k b) c).cnt:=by rw[nH,wS];simp[Bt.list];omega
 have hv:∀p,p∈path a k b c->p.1≠dn:=λp hp=>by
  obtain⟨i,hi,e⟩:=List.mem_iff_getElem.1 hp;have:=(uD.at_ hi).1;rw[e]at this;exact hSn _ _ this
 obtain⟨l,hl⟩:=aJ (path a k b c);rw[<-hl]at hz uD Dw iD Fa hv;have Iq:=ah (λW (hW:aZ B u0 q T S m W)=>link_any K hW (Ji S) p1 p2 p3 (by have:=nH;simp[Bt.cnt];omega));have Sj:=ah (λS1 W (hm:Mk S S1 (link .nil k b)) (hW:aZ B u0 q T S1 m W) {base:Nat} {cp:Nat} {Ad:Option Addr} (VT:LO ug 168 W base (.slice Ad l.length cp) l) (hbs:B<=base)=>U6 K hW hl VT hbs hn hv (p5 S1 hm) (by rw[p4, <-nH];omega) ak e1 e2);have HPA:=ah (λW (hW:aZ B u0 q T S m W)=>U0 K hW hz uD ak);have Dz:=ah (λW (hW:aZ B u0 q T S m W)=>Em K hW hz uD ak iD);have EW:=ah (λW (hW:aZ B u0 q T S m W)=>zQ K hW hz uD ak);rw[Fa]at Dz;have oC:=(qE c a k b).2;rw[<-hl, <-Dw]at oC;rw[oC]at EW;rw[vN]at EW;have atF:l.length≠0:=by omega
 obtain⟨rk,NV⟩:=aJ ((jX c++a.list).length);obtain⟨cn,IW⟩:=aJ ((plug (Bt.node a k b) c).cnt);rw[<-NV]at Dz GL;rw[<-IW]at EW GL hc;obtain⟨tt,Jy⟩:=aJ ((plug (Bt.node a k b) c).list);obtain⟨pp,MV⟩:=aJ (parts a (link .nil k b) c);obtain⟨tL,lI⟩:=aJ (link .nil k b);rw[<-Jy, <-MV];rw[<-MV,p4, <-Jy]at Sj;rw[<-lI]at Iq Sj;unfold EY at Iq;obtain⟨rL,hrL⟩:=aJ (tL.rt);rw[<-hrL]at Iq Sj;obtain⟨ta,GN⟩:=aJ (a.rt);obtain⟨tb,GR⟩:=aJ (b.rt);rw[<-GR]at Iq;rw[<-GN]at Sj;obtain⟨l',ZJ⟩:∃x,x=z:=⟨_,rfl⟩;have HLL:Hid (∃ (n0:TN) (z0:List (Tok × TN)),l=(k,n0)::z0/\n0.left=ta/\n0.right=tb):=ah ⟨_,_,hz,by rw[GN];rfl,by rw[GR];rfl⟩
 have HSB:Hid (∀x,x∈tL.list->x∈tt):=ah λx hx=>by
  rw[lI,dD]at hx;rw[Jy,wS];simp[Bt.list]at hx ⊢;rcases hx with h | h<;>simp[h]
 have MX:¬ ((rk:Nat):Int)=0:=by have:(jX c++a.list).length≠0:=λe=>dL (adu.1 e);omega
 have x1:=(Sx.start (F:=F) h).new K 71 (aI k);have vW:=ah x1;have Ls:=ah (Dz.out _ x1.st);have zX:=x1.lo;have hql:=x1.ql;have rF:=h.hq;have HK:=ah K;have aQ:Hid (∀k,F k->k<B):=ah K.low;clear x1 h K ht hn hSn hz uD Dw qP Gv iD Fa p1 p2 p3 p4 p5 Cb nH wS e1 e2 hv hl oC NV IW Jy MV lI hrL GN GR ZJ dL Dz hc GL;go_enter func69,ntmps69
 go_wp2_with fail
 refine aac Ls ?_;rintro e w1 ⟨rfl,jr,eH⟩;have x2:=vW.out.call HK jr eH;obtain⟨c0,c1,l1⟩:=x2.tok 0;have awz:B<=w1.heap.size:=by have:=x2.lo;omega
 have yX:=ah x2;have BD:=yX;have afH:=ah (HPA.out _ jr);clear jr eH x2 vW Ls yX HPA EW;go_wp2_with fail
 refine aac afH ?_;rintro e w4 ⟨Ad,cp,rfl,qm,YB,sW⟩;have x4:=BD.out.call HK YB sW;have hlp:0<l.length:=by omega
 obtain⟨bb,oo,rfl⟩:∃bb oo,Ad=some ⟨bb,oo,none⟩:=by
  obtain⟨bb,oo,e,_⟩:=qm.ls.at_ hlp;exact⟨bb,oo,e⟩
 obtain⟨ll,Dw⟩:=aJ (l.length);rw[<-Dw]at qm hlp Sj ⊢;have amZ:=qm;have YL:=ah qm;have HLP:=ah hlp;have uJ:=ah x4;have lH:=ah (x4.at_ 0);have lD:=ah x4.st;obtain⟨k0,k1,lk⟩:=x4.tok 0;obtain⟨_,q1,lq⟩:=x4.err;have yU:=x4.fr.size;have fJ:B<=w.heap.size:=zX;clear YB sW x4 qm amZ Dw hlp BD afH;go_wp2_with fail
 refine aP (λu=>⟨#[_,_,_,_,_,_,_,_,_,_,_,_,_,_,_,_,_,_,_,_,_,_,_,_,_,_,_,_,_,u 0,u 1,u 2,u 3,u 4,u 5,u 6,u 7,u 8,u 9,u 10,u 11,u 12,u 13,u 14,u 15,u 16,_,_,_,_],_⟩)
  [bf q 0,
   aF (.slice (some ⟨bb,oo,none⟩) ll cp),
   aF (.slice (some ⟨bb,oo,none⟩) ll cp),
   aF (.pointer (some ⟨bb,oo,none⟩)),
   aF (.pointer (some ⟨bb,oo+2,none⟩)),
   aF (.pointer (some ⟨bb,oo+2+2,none⟩)),
   aF (aG (ta)),
   bf q 0,
   aF (aG (dn)),
   aF (aG (k)),
   aF (.slice (some ⟨bb,oo,none⟩) ll cp),
   aF (.pointer (some ⟨bb,oo,none⟩)),
   aF (.pointer (some ⟨bb,oo+2,none⟩)),
   aF (.pointer (some ⟨bb,oo+2+4,none⟩)),
   aF (aG (tb)),
   aF (aG (rL)),
   aF (.tuple #[])]
  F [8,15,16] (λj W=>dG B u0 q T (m) (λS1=>match j with | 0=>S1=S | 1=>S1=S | 2=>Mk S S1 tL | _=>eY S1 dn pp.1/\eY S1 dn pp.2/\Same tt S S1) W) aV aV [] rfl aH (by simp<;>omega) (λk hk=>⟨by have:=aQ.out k hk;omega,by simp⟩) ⟨λ_=>undef,rfl⟩ (⟨S,lD.out.below HK aU.drew,rfl⟩) ?_ ?_ ?_
 ·intro i o hi ho u W hf hold aj jP;have aW:=fw aQ hf lH;have Wp:=YL.out.fr hf.U8 (λk a=>by have:=aQ.out k a;omega);obtain⟨g0,g1,g2,g3⟩:=wR Wp HLL
  match i,ho with
  |0,ho|1,ho|2,ho|7,ho|10,ho=>exact sv ho (bg rfl rfl)
  |3,ho=>exact sv ho (uU rfl (aj 2 rfl) (HLP.out))
  |4,ho=>exact sv ho (uV rfl (aj 3 rfl))
  |5,ho=>exact sv ho (gG rfl (aj 4 rfl))
  |6,ho=>exact sv ho (aC rfl (aj 5 rfl) g0 g1)
  |8,ho|15,ho|16,ho=>
   exact absurd aH hi
  |9,ho=>exact sv ho (aC rfl rfl (aW.cell 0) (aW.cell 1))
  |11,ho=>exact sv ho (uU rfl (aj 10 rfl) (HLP.out))
  |12,ho=>exact sv ho (uV rfl (aj 11 rfl))
  |13,ho=>exact sv ho (fP rfl (aj 12 rfl))
  |14,ho=>exact sv ho (aC rfl (aj 13 rfl) g2 g3)
  |n+17,ho=>exact absurd ho aH
 ·intro t i o ht ho u W hf bG aj;have aW:=fw aQ hf lH;have Wp:=YL.out.fr hf.U8 (λk a=>by have:=aQ.out k a;omega);obtain⟨g0,g1,g2,g3⟩:=wR Wp HLL
  match t,ht with
  |0,ht=>
   have ht:=aA ht;subst ht;obtain rfl:=aA ho;refine⟨aB rfl,Does.call (fV dP rfl ) ?_⟩;obtain⟨S1,hs,hp⟩:=bG;refine aac (dX W) ?_;rintro e w' ⟨rfl,hb⟩;exact⟨_,rfl,rfl,rfl, .of_below hb,S1,hs.below HK hb,hp⟩
  |1,ht=>
   have ht:=aA ht;subst ht;obtain rfl:=aA ho;refine⟨aB rfl,Does.call (fU zO rfl (aj 7 rfl) (aj 8 rfl) (aj 9 rfl) (aj 14 rfl)) ?_⟩;obtain⟨S1,hs,hp⟩:dG B u0 q T m (λS1=>S1=S) W:=bG;refine aac (Iq.out W (hp ▸ hs)) ?_;rintro e w' ⟨rfl,⟨S2,h1,h3⟩,h2⟩;exact⟨_,rfl,rfl,rfl,h2,_,h1,h3⟩
  |2,ht=>
   have ht:=aA ht;subst ht;obtain rfl:=aA ho;refine⟨aB rfl,Does.call (fU U7 rfl (aj 0 rfl) (aj 1 rfl) (aj 6 rfl) (aj 15 rfl)) ?_⟩;obtain⟨S1,hs,hp⟩:dG B u0 q T m (λS1=>Mk S S1 tL) W:=bG;refine aac (Sj.out S1 W hp hs (YL.out.fr hf.U8 (λk a=>by have:=aQ.out k a;omega)) ak) ?_;rintro e w' ⟨rfl,S2,h1,h3,h4,h5,h2⟩;exact⟨_,rfl,rfl,rfl,h2,S2,h1,h3,h4,Same.akD hp.same HSB h5⟩
  |n+3,ht=>exact absurd ht aH
 ·intro u W hf bG au;have aW:=fw aQ hf lH;have Wp:=YL.out.fr hf.U8 (λk a=>by have:=aQ.out k a;omega);obtain⟨g0,g1,g2,g3⟩:=wR Wp HLL;have e0:=au.q 0;have e1:=au.q 1;have e2:=au.q 2;have e3:=au.q 3;have e4:=au.q 4;have e5:=au.q 5;have e6:=au.q 6;have e7:=au.q 7;have e8:=au.q 8;have e9:=au.q 9;have e10:=au.q 10;have e11:=au.q 11;have e12:=au.q 12;have e13:=au.q 13;have e14:=au.q 14;have e15:=au.q 15;have e16:=au.q 16;simp only[e0,e1,e2,e3,e4,e5,e6,e7,e8,e9,e10,e11,e12,e13,e14,e15,e16];obtain⟨S1,hs,hp⟩:dG B u0 q T m (λS1=>eY S1 dn pp.1/\eY S1 dn pp.2/\Same tt S S1) W:=bG;have Cj:=ah (uJ.out.reg HK hs hf);have HP7:=ah hp;obtain⟨w7,YE⟩:=aJ (W);rw[<-YE]at Cj ⊢;obtain⟨_,q1,lq⟩:=Cj.out.err;clear au hf hs hp aW Wp g0 g1 g2 g3 e0 e1 e2 e3 e4 e5 e6 e7 e8 e9 e10 e11 e12 e13 e14 e15 e16 uJ YL lH lD YE u W;go_wp2;go_ret;exact⟨rfl,⟨_,Cj.out.st,HP7⟩,Cj.out.fr⟩
theorem afI(K:Kv F B u0 T)(h:aZ B u0 q T S m w){a b:Bt}{k:Tok}{c:List Up}(ht:eY S dn (plug (Bt.node a k b) c))(hn:(plug (Bt.node a k b) c).list.Nodup)(hc:(plug (Bt.node a k b) c).cnt<=249)(dL:jX c++a.list= []):
  Calls prog 69 #[.pointer (some ⟨q,0,none⟩),aG k] w λe w'=>e= .returned (.int .i64 0)/\aZ B u0 q T S m w'/\Fr F w w':=by
 have hSn:∀x n,S x=some n->x≠dn:=λx n hx=>(h.ok x n hx).1.ne;obtain⟨z,hz⟩:=jE c a k b;have uD:=xY c a k b ht;have Dw:=tY c a k b;have qP:=xR c (Bt.node a k b);have Gv:(Bt.node a k b).cnt=a.cnt+b.cnt+1:=rfl;have iD:=qG c a k b ht;have Fa:=Ej hSn c a k b ht hn;have nH:=Bt.dU (plug (Bt.node a k b) c);have wS:=jh c (Bt.node a k b);have GL:(jX c++a.list).length+1+(b.list++nC c).length=(plug (Bt.node a k b) c).cnt:=by rw[nH,wS];simp[Bt.list];omega
 obtain⟨l,hl⟩:=aJ (path a k b c);rw[<-hl]at hz uD Dw iD Fa;have Dz:=ah (λW (hW:aZ B u0 q T S m W)=>Em K hW hz uD ak iD);have EW:=ah (λW (hW:aZ B u0 q T S m W)=>zQ K hW hz uD ak);rw[Fa]at Dz;have oC:=(qE c a k b).2;rw[<-hl, <-Dw]at oC;rw[oC]at EW;rw[vN]at EW;rw[dL]at Dz GL;obtain⟨rk,NV⟩:=aJ ((jX c++a.list).length);obtain⟨cn,IW⟩:=aJ ((plug (Bt.node a k b) c).cnt);clear NV IW cn;have x1:=(Sx.start (F:=F) h).new K 71 (aI k);have vW:=ah x1;have Ls:=ah (Dz.out _ x1.st);have HK:=ah K;clear x1 h K ht hn hSn hz uD Dw qP Gv iD Fa nH wS hl oC dL Dz hc GL EW;go_enter func69,ntmps69
 go_wp2_with fail
 refine aac Ls ?_;rintro e w1 ⟨rfl,jr,eH⟩;have x2:=vW.out.call HK jr eH;obtain⟨c0,c1,l1⟩:=x2.tok 0;have yX:=ah x2;clear jr eH x2 vW Ls;go_wp2;go_ret;exact⟨rfl,yX.out.st,yX.out.fr⟩
theorem ab8(K:Kv F B u0 T)(h:aZ B u0 q T S m w){a b:Bt}{k:Tok}{c:List Up}(ht:eY S dn (plug (Bt.node a k b) c))(hn:(plug (Bt.node a k b) c).list.Nodup)(hc:(plug (Bt.node a k b) c).cnt<=249)(dL:b.list++nC c≠ []):
  Calls prog 70 #[.pointer (some ⟨q,0,none⟩),aG k] w λe w'=>e= .returned (.int .i64 0)/\(∃S',aZ B u0 q T S' m w'/\eY S' dn (parts (link a k .nil) b c).1/\eY S' dn (parts (link a k .nil) b c).2/\Same (plug (Bt.node a k b) c).list S S')/\Fr F w w':=by
 have hSn:∀x n,S x=some n->x≠dn:=λx n hx=>(h.ok x n hx).1.ne;obtain⟨z,hz⟩:=jE c a k b;have uD:=xY c a k b ht;have Dw:=tY c a k b;have qP:=xR c (Bt.node a k b);have Gv:(Bt.node a k b).cnt=a.cnt+b.cnt+1:=rfl;have iD:=qG c a k b ht;have Fa:=Ej hSn c a k b ht hn;obtain⟨p1,p2,p3,p4,p5⟩:=ab7 ht hn;have Cb:=qB c (link a k .nil) b;have nH:=Bt.dU (plug (Bt.node a k b) c);have wS:=jh c (Bt.node a k b);have e1:(parts (link a k .nil) b c).1≠Bt.nil:=λe=>by rw[e]at Cb;have:=Cb.1;rw[dD]at this;simp[Bt.list]at this
 have e2:(parts (link a k .nil) b c).2≠Bt.nil:=λe=>by rw[e]at Cb;exact dL Cb.2.symm
 have GL:(jX c++a.list).length+1+(b.list++nC c).length=(plug (Bt.node a k b) c).cnt:=by rw[nH,wS];simp[Bt.list];omega
 have hv:∀p,p∈path a k b c->p.1≠dn:=λp hp=>by
  obtain⟨i,hi,e⟩:=List.mem_iff_getElem.1 hp;have:=(uD.at_ hi).1;rw[e]at this;exact hSn _ _ this
 obtain⟨l,hl⟩:=aJ (path a k b c);rw[<-hl]at hz uD Dw iD Fa hv;have Iq:=ah (λW (hW:aZ B u0 q T S m W)=>link_any K hW p1 (Ji S) p2 p3 (by have:=nH;simp[Bt.cnt];omega));have Sj:=ah (λS1 W (hm:Mk S S1 (link a k .nil)) (hW:aZ B u0 q T S1 m W) {base:Nat} {cp:Nat} {Ad:Option Addr} (VT:LO ug 168 W base (.slice Ad l.length cp) l) (hbs:B<=base)=>U6 K hW hl VT hbs hn hv (p5 S1 hm) (by rw[p4, <-nH];omega) ak e1 e2);have HPA:=ah (λW (hW:aZ B u0 q T S m W)=>U0 K hW hz uD ak);have Dz:=ah (λW (hW:aZ B u0 q T S m W)=>Em K hW hz uD ak iD);have EW:=ah (λW (hW:aZ B u0 q T S m W)=>zQ K hW hz uD ak);rw[Fa]at Dz;have oC:=(qE c a k b).2;rw[<-hl, <-Dw]at oC;rw[oC]at EW;rw[vN]at EW;have atF:l.length≠0:=by omega
 obtain⟨rk,NV⟩:=aJ ((jX c++a.list).length);obtain⟨cn,IW⟩:=aJ ((plug (Bt.node a k b) c).cnt);rw[<-NV]at Dz GL;rw[<-IW]at EW GL hc;obtain⟨tt,Jy⟩:=aJ ((plug (Bt.node a k b) c).list);obtain⟨pp,MV⟩:=aJ (parts (link a k .nil) b c);obtain⟨tL,lI⟩:=aJ (link a k .nil);rw[<-Jy, <-MV];rw[<-MV,p4, <-Jy]at Sj;rw[<-lI]at Iq Sj;unfold EY at Iq;obtain⟨rL,hrL⟩:=aJ (tL.rt);rw[<-hrL]at Iq Sj;obtain⟨ta,GN⟩:=aJ (a.rt);obtain⟨tb,GR⟩:=aJ (b.rt);rw[<-GN]at Iq;rw[<-GR]at Sj;obtain⟨l',ZJ⟩:∃x,x=z:=⟨_,rfl⟩;have HLL:Hid (∃ (n0:TN) (z0:List (Tok × TN)),l=(k,n0)::z0/\n0.left=ta/\n0.right=tb):=ah ⟨_,_,hz,by rw[GN];rfl,by rw[GR];rfl⟩
 have HSB:Hid (∀x,x∈tL.list->x∈tt):=ah λx hx=>by
  rw[lI,dD]at hx;rw[Jy,wS];simp[Bt.list]at hx ⊢;rcases hx with h | h<;>simp[h]
 have MX:¬ ((rk:Nat):Int)=((cn:Nat):Int)-1:=by have:(b.list++nC c).length≠0:=λe=>dL (adu.1 e);omega
 have uG:IntKind.i64.wrap (((cn:Nat):Int)-1)=((cn:Nat):Int)-1:=acK _ ak;have x1:=(Sx.start (F:=F) h).new K 71 (aI k);have vW:=ah x1;have Ls:=ah (Dz.out _ x1.st);have zX:=x1.lo;have hql:=x1.ql;have rF:=h.hq;have HK:=ah K;have aQ:Hid (∀k,F k->k<B):=ah K.low;clear x1 h K ht hn hSn hz uD Dw qP Gv iD Fa p1 p2 p3 p4 p5 Cb nH wS e1 e2 hv hl oC NV IW Jy MV lI hrL GN GR ZJ dL Dz hc GL;go_enter func70,ntmps70
 go_wp2_with fail
 refine aac Ls ?_;rintro e w1 ⟨rfl,jr,eH⟩;have x2:=vW.out.call HK jr eH;obtain⟨c0,c1,l1⟩:=x2.tok 0;have awz:B<=w1.heap.size:=by have:=x2.lo;omega
 have yX:=ah x2;have afJ:=ah (EW.out _ jr);clear jr eH x2 vW Ls EW;go_wp2_with fail
 refine aac afJ ?_;rintro e w2 ⟨rfl,mW,yK⟩;have x2:=yX.out.call HK mW yK;obtain⟨d0,d1,l2⟩:=x2.tok 0;have aCb:B<=w2.heap.size:=by have:=x2.lo;omega
 have BD:=ah x2;have afH:=ah (HPA.out _ mW);clear mW yK x2 yX afJ HPA c0 c1 l1;go_wp2_with fail
 refine aac afH ?_;rintro e w4 ⟨Ad,cp,rfl,qm,YB,sW⟩;have x4:=BD.out.call HK YB sW;have hlp:0<l.length:=by omega
 obtain⟨bb,oo,rfl⟩:∃bb oo,Ad=some ⟨bb,oo,none⟩:=by
  obtain⟨bb,oo,e,_⟩:=qm.ls.at_ hlp;exact⟨bb,oo,e⟩
 obtain⟨ll,Dw⟩:=aJ (l.length);rw[<-Dw]at qm hlp Sj ⊢;have amZ:=qm;have YL:=ah qm;have HLP:=ah hlp;have uJ:=ah x4;have lH:=ah (x4.at_ 0);have lD:=ah x4.st;obtain⟨k0,k1,lk⟩:=x4.tok 0;obtain⟨_,q1,lq⟩:=x4.err;have yU:=x4.fr.size;have fJ:B<=w.heap.size:=zX;clear YB sW x4 qm amZ Dw hlp BD afH;go_wp2_with fail
 refine aP (λu=>⟨#[_,_,_,_,_,_,_,_,_,_,_,_,_,_,_,_,_,_,_,_,_,_,_,_,_,_,_,_,_,_,_,_,_,_,_,_,_,_,_,_,_,u 0,u 1,u 2,u 3,u 4,u 5,u 6,u 7,u 8,u 9,u 10,u 11,u 12,u 13,u 14,u 15,u 16,_,_,_,_],_⟩)
  [bf q 0,
   aF (.slice (some ⟨bb,oo,none⟩) ll cp),
   bf q 0,
   aF (.slice (some ⟨bb,oo,none⟩) ll cp),
   aF (.pointer (some ⟨bb,oo,none⟩)),
   aF (.pointer (some ⟨bb,oo+2,none⟩)),
   aF (.pointer (some ⟨bb,oo+2+2,none⟩)),
   aF (aG (ta)),
   aF (aG (k)),
   aF (aG (dn)),
   aF (aG (rL)),
   aF (.slice (some ⟨bb,oo,none⟩) ll cp),
   aF (.pointer (some ⟨bb,oo,none⟩)),
   aF (.pointer (some ⟨bb,oo+2,none⟩)),
   aF (.pointer (some ⟨bb,oo+2+4,none⟩)),
   aF (aG (tb)),
   aF (.tuple #[])]
  F [9,10,16] (λj W=>dG B u0 q T (m) (λS1=>match j with | 0=>S1=S | 1=>S1=S | 2=>Mk S S1 tL | _=>eY S1 dn pp.1/\eY S1 dn pp.2/\Same tt S S1) W) aV aV [] rfl aH (by simp<;>omega) (λk hk=>⟨by have:=aQ.out k hk;omega,by simp⟩) ⟨λ_=>undef,rfl⟩ (⟨S,lD.out.below HK aU.drew,rfl⟩) ?_ ?_ ?_
 ·intro i o hi ho u W hf hold aj jP;have aW:=fw aQ hf lH;have Wp:=YL.out.fr hf.U8 (λk a=>by have:=aQ.out k a;omega);obtain⟨g0,g1,g2,g3⟩:=wR Wp HLL
  match i,ho with
  |0,ho|1,ho|2,ho|3,ho|11,ho=>exact sv ho (bg rfl rfl)
  |4,ho=>exact sv ho (uU rfl (aj 3 rfl) (HLP.out))
  |5,ho=>exact sv ho (uV rfl (aj 4 rfl))
  |6,ho=>exact sv ho (gG rfl (aj 5 rfl))
  |7,ho=>exact sv ho (aC rfl (aj 6 rfl) g0 g1)
  |8,ho=>exact sv ho (aC rfl rfl (aW.cell 0) (aW.cell 1))
  |9,ho|10,ho|16,ho=>
   exact absurd aH hi
  |12,ho=>exact sv ho (uU rfl (aj 11 rfl) (HLP.out))
  |13,ho=>exact sv ho (uV rfl (aj 12 rfl))
  |14,ho=>exact sv ho (fP rfl (aj 13 rfl))
  |15,ho=>exact sv ho (aC rfl (aj 14 rfl) g2 g3)
  |n+17,ho=>exact absurd ho aH
 ·intro t i o ht ho u W hf bG aj;have aW:=fw aQ hf lH;have Wp:=YL.out.fr hf.U8 (λk a=>by have:=aQ.out k a;omega);obtain⟨g0,g1,g2,g3⟩:=wR Wp HLL
  match t,ht with
  |0,ht=>
   have ht:=aA ht;subst ht;obtain rfl:=aA ho;refine⟨aB rfl,Does.call (fV dP rfl ) ?_⟩;obtain⟨S1,hs,hp⟩:=bG;refine aac (dX W) ?_;rintro e w' ⟨rfl,hb⟩;exact⟨_,rfl,rfl,rfl, .of_below hb,S1,hs.below HK hb,hp⟩
  |1,ht=>
   have ht:=aA ht;subst ht;obtain rfl:=aA ho;refine⟨aB rfl,Does.call (fU zO rfl (aj 2 rfl) (aj 7 rfl) (aj 8 rfl) (aj 9 rfl)) ?_⟩;obtain⟨S1,hs,hp⟩:dG B u0 q T m (λS1=>S1=S) W:=bG;refine aac (Iq.out W (hp ▸ hs)) ?_;rintro e w' ⟨rfl,⟨S2,h1,h3⟩,h2⟩;exact⟨_,rfl,rfl,rfl,h2,_,h1,h3⟩
  |2,ht=>
   have ht:=aA ht;subst ht;obtain rfl:=aA ho;refine⟨aB rfl,Does.call (fU U7 rfl (aj 0 rfl) (aj 1 rfl) (aj 10 rfl) (aj 15 rfl)) ?_⟩;obtain⟨S1,hs,hp⟩:dG B u0 q T m (λS1=>Mk S S1 tL) W:=bG;refine aac (Sj.out S1 W hp hs (YL.out.fr hf.U8 (λk a=>by have:=aQ.out k a;omega)) ak) ?_;rintro e w' ⟨rfl,S2,h1,h3,h4,h5,h2⟩;exact⟨_,rfl,rfl,rfl,h2,S2,h1,h3,h4,Same.akD hp.same HSB h5⟩
  |n+3,ht=>exact absurd ht aH
 ·intro u W hf bG au;have aW:=fw aQ hf lH;have Wp:=YL.out.fr hf.U8 (λk a=>by have:=aQ.out k a;omega);obtain⟨g0,g1,g2,g3⟩:=wR Wp HLL;have e0:=au.q 0;have e1:=au.q 1;have e2:=au.q 2;have e3:=au.q 3;have e4:=au.q 4;have e5:=au.q 5;have e6:=au.q 6;have e7:=au.q 7;have e8:=au.q 8;have e9:=au.q 9;have e10:=au.q 10;have e11:=au.q 11;have e12:=au.q 12;have e13:=au.q 13;have e14:=au.q 14;have e15:=au.q 15;have e16:=au.q 16;simp only[e0,e1,e2,e3,e4,e5,e6,e7,e8,e9,e10,e11,e12,e13,e14,e15,e16];obtain⟨S1,hs,hp⟩:dG B u0 q T m (λS1=>eY S1 dn pp.1/\eY S1 dn pp.2/\Same tt S S1) W:=bG;have Cj:=ah (uJ.out.reg HK hs hf);have HP7:=ah hp;obtain⟨w7,YE⟩:=aJ (W);rw[<-YE]at Cj ⊢;obtain⟨_,q1,lq⟩:=Cj.out.err;clear au hf hs hp aW Wp g0 g1 g2 g3 e0 e1 e2 e3 e4 e5 e6 e7 e8 e9 e10 e11 e12 e13 e14 e15 e16 uJ YL lH lD YE u W;go_wp2;go_ret;exact⟨rfl,⟨_,Cj.out.st,HP7⟩,Cj.out.fr⟩
theorem ab9(K:Kv F B u0 T)(h:aZ B u0 q T S m w){a b:Bt}{k:Tok}{c:List Up}(ht:eY S dn (plug (Bt.node a k b) c))(hn:(plug (Bt.node a k b) c).list.Nodup)(hc:(plug (Bt.node a k b) c).cnt<=249)(dL:b.list++nC c= []):
  Calls prog 70 #[.pointer (some ⟨q,0,none⟩),aG k] w λe w'=>e= .returned (.int .i64 0)/\aZ B u0 q T S m w'/\Fr F w w':=by
 have hSn:∀x n,S x=some n->x≠dn:=λx n hx=>(h.ok x n hx).1.ne;obtain⟨z,hz⟩:=jE c a k b;have uD:=xY c a k b ht;have Dw:=tY c a k b;have qP:=xR c (Bt.node a k b);have Gv:(Bt.node a k b).cnt=a.cnt+b.cnt+1:=rfl;have iD:=qG c a k b ht;have Fa:=Ej hSn c a k b ht hn;have nH:=Bt.dU (plug (Bt.node a k b) c);have wS:=jh c (Bt.node a k b);have GL:(jX c++a.list).length+1+(b.list++nC c).length=(plug (Bt.node a k b) c).cnt:=by rw[nH,wS];simp[Bt.list];omega
 obtain⟨l,hl⟩:=aJ (path a k b c);rw[<-hl]at hz uD Dw iD Fa;have Dz:=ah (λW (hW:aZ B u0 q T S m W)=>Em K hW hz uD ak iD);have EW:=ah (λW (hW:aZ B u0 q T S m W)=>zQ K hW hz uD ak);rw[Fa]at Dz;have oC:=(qE c a k b).2;rw[<-hl, <-Dw]at oC;rw[oC]at EW;rw[vN]at EW;rw[dL]at GL;obtain⟨rk,NV⟩:=aJ ((jX c++a.list).length);obtain⟨cn,IW⟩:=aJ ((plug (Bt.node a k b) c).cnt);rw[<-NV]at Dz GL;rw[<-IW]at EW GL hc;have uG:IntKind.i64.wrap (((cn:Nat):Int)-1)=((rk:Nat):Int):=by rw[acK _ ak];simp at GL;omega
 have x1:=(Sx.start (F:=F) h).new K 71 (aI k);have vW:=ah x1;have Ls:=ah (Dz.out _ x1.st);have HK:=ah K;clear x1 h K ht hn hSn hz uD Dw qP Gv iD Fa nH wS hl oC dL Dz hc NV IW;go_enter func70,ntmps70
 go_wp2_with fail
 refine aac Ls ?_;rintro e w1 ⟨rfl,jr,eH⟩;have x2:=vW.out.call HK jr eH;obtain⟨c0,c1,l1⟩:=x2.tok 0;have yX:=ah x2;have afJ:=ah (EW.out _ jr);clear jr eH x2 vW Ls EW GL;go_wp2_with fail
 refine aac afJ ?_;rintro e w2 ⟨rfl,mW,yK⟩;have BD:=ah (yX.out.call HK mW yK);clear mW yK yX afJ c0 c1;go_wp2;go_ret;exact⟨rfl,BD.out.st,BD.out.fr⟩
end
end Go.Proofs.YtadnmegdbllaoaaGreatDoor
namespace Go.Proofs.YtadnmegdbllaoaaGreatDoor
open Go.RowKit Go.Shelf Tryz
section
variable {Q:Exit->Act->World->Prop}{ops:Array Oper}{w:World}
theorem acd{md:Region.Mode}(I:Array Bool->Act->World->Prop)(hmd:md= .any)
  (mP:((ac9 ops.size).all λi=>((ops[i]?).map λo=>o.after.toList.all λe=> !agp .any e||decide (e.on<i)).getD true)=true)
  (dN:∀L a W i o,I L a W->i<L.size->L.getD i false=false->(∀j,depOn ops i j=true->L.getD j false=true)->ops[i]? =some o->
   (adi o (yielded ops a.tmps)=true/\Does o a W λv W'=>I (L.setIfInBounds i true) (a.put o.dst v) W')\/(adi o (yielded ops a.tmps)=false/\I (L.setIfInBounds i true) (a.put o.dst undef) W))
  (dM:∀L a W,(∀i,i<ops.size->L.getD i false=true)->I L a W->Q .normal a W):
  ∀fuel L a W,L.size=ops.size->I L a W->L.toList.count false<=fuel->wpAny prog md ops Q fuel L a W:=by
 subst hmd;have uj:∀L a W,L.size=ops.size->I L a W->adv .any ops L= []->Q .normal a W:=λL a W hs hI hr=>dM L a W (wH hr hs mP) hI;intro fuel
 induction fuel with
 |zero=>
  intro L a W hs hI hc
  have hr:adv .any ops L= []:=by
   cases hr:adv .any ops L with
   |nil=>rfl
   |cons i r=>
    have hm:=kS (md:= .any) (ops:=ops) (L:=L) (i:=i) (by rw[hr];exact aae ..);have hL:i<L.size:=by have:=hm.1;omega
    have h2:=hm.2.1;have h3:L[i]=false:=by simpa[ac5,hL]using h2
    have h4:L.toList.count false=0:=by omega
    rw[List.count_eq_zero]at h4;exact absurd (by rw[<-h3];exact adf.2 (agU hL)) h4
  exact⟨hr,uj L a W hs hI hr⟩
 |succ fuel ih=>
  intro L a W hs hI hc;refine⟨uj L a W hs hI,λi hi=> ?_⟩;have hm:=kS hi;have hL:i<L.size:=by have:=hm.1;omega
  have h3:L[i]=false:=by simpa[ac5,hL]using hm.2.1
  have iL:L.getD i false=false:=by simpa[ac5,hL]using h3
  have nH:(L.setIfInBounds i true).toList.count false<=fuel:=by
   have h5:(L.setIfInBounds i true).toList=L.toList.set i true:=by simp
   rw[h5,List.count_set (by simpa using hL)];have h6:L.toList[i]'(by simpa using hL)=false:=by simpa using h3
   rw[h6];have h7:0<L.toList.count false:=List.count_pos_iff.2 (by rw[<-h3];exact adf.2 (agU hL));simp;simp at hc h7;omega
  obtain⟨o,ho⟩:∃o,ops[i]? =some o:=⟨_,Array.getElem?_eq_getElem hm.1⟩
  have vG:∀j,depOn ops i j=true->L.getD j false=true:=by
   intro j hj;unfold depOn at hj;rw[ho]at hj;simp only[Option.map_some,Option.getD_some,List.any_eq_true,Bool.and_eq_true,beq_iff_eq]at hj;obtain⟨e,he,hbd,rfl⟩:=hj;exact hm.2.2 o ho e he hbd
  unfold wpOp;rw[ho];simp only;rcases dN L a W i o hI hL iL vG ho with⟨hw,hd⟩ | ⟨hw,hd⟩
  ·rw[if_pos hw];exact .inl (hd.wp λv W' h=>ih _ _ _ (by simp[hs]) h nH)
  ·rw[if_neg (by rw[hw];decide)];exact ih _ _ _ (by simp[hs]) hd nH
theorem NW{id:Nat}{a:Act}(I:Array Bool->Act->World->Prop)(hm:prog.follows .mixedOrders=true)
  (mP:((ac9 ops.size).all λi=>((ops[i]?).map λo=>o.after.toList.all λe=> !agp .any e||decide (e.on<i)).getD true)=true)
  (h0:∀L:Array Bool,(∀i,L.getD i false=false)->I L a w.drew)
  (dN:∀L a W i o,I L a W->i<L.size->L.getD i false=false->(∀j,depOn ops i j=true->L.getD j false=true)->ops[i]? =some o->
   (adi o (yielded ops a.tmps)=true/\Does o a W λv W'=>I (L.setIfInBounds i true) (a.put o.dst v) W')\/(adi o (yielded ops a.tmps)=false/\I (L.setIfInBounds i true) (a.put o.dst undef) W))
  (dM:∀L a W,(∀i,i<ops.size->L.getD i false=true)->I L a W->Q .normal a W):(Code.region id ops true).wp prog Q a w:=by
 refine wp_region_any hm (acd I rfl mP dN dM _ _ _ _ aH (h0 _ λi=> ?_) aH);by_cases h:i<ops.size<;>simp[ac5,h]
theorem Lu{id:Nat}{a:Act}(mk:(Nat->Value)->Act)(J:(Nat->Value)->Array Bool->World->Prop)(hm:prog.follows .mixedOrders=true)
  (mP:((ac9 ops.size).all λi=>((ops[i]?).map λo=>o.after.toList.all λe=> !agp .any e||decide (e.on<i)).getD true)=true)
  (u0:Nat->Value) (ha:a=mk u0) (h0:∀L:Array Bool,(∀i,L.getD i false=false)->J u0 L w.drew)
  (dN:∀L u W i o,J u L W->i<L.size->L.getD i false=false->(∀j,depOn ops i j=true->L.getD j false=true)->ops[i]? =some o->
   adi o (yielded ops (mk u).tmps)=true/\Does o (mk u) W λv W'=>∃u',(mk u).put o.dst v=mk u'/\J u' (L.setIfInBounds i true) W')
  (dM:∀L u W,(∀i,i<ops.size->L.getD i false=true)->J u L W->Q .normal (mk u) W):(Code.region id ops true).wp prog Q a w:=
 NW (λL a W=>∃u,a=mk u/\J u L W) hm mP (λL hL=>⟨u0,ha,h0 L hL⟩) (λL a W i o ⟨u,hu,h⟩ h1 h2 h3 h4=>by
  subst hu;obtain⟨a1,a2⟩:=dN L u W i o h h1 h2 h3 h4
  exact .inl ⟨a1,a2⟩) (λL a W au ⟨u,hu,h⟩=>by subst hu;exact dM L u W au h)
end
section
variable {a:Act}{o:Oper}{x y z:Operand}{w:World}{ad:Addr}{v:Value}{R:Value->World->Prop}
theorem ace{α:Type}{E:Enc α}{t ty:TypeId}{zv:Value}{k bytes bs b:Nat}{l:List α}{s:α}(hk:E.size=k)(hE:EI prog ty zv k bytes)(ht:prog.underlying t=some (.slice ty))(hz:zv.cells.size=k)
  (ho:o.op= .call { callee:= .builtin .append,args:= #[x,y],argTypes:= #[t,t] }) (hx:a.eval x=v) (dh:LO E ty w bs v l) (hy:a.eval y= .slice (some ⟨b,0,none⟩) 1 1) (hB:aO w b ty (E.enc s).toArray) (hlen:l.length+1<=maxLen) (VX:(l.length+1)*bytes<=140737488355328) (hbs:bs<=w.heap.size)
  (hR:∀v' w',LO E ty w' bs v' (l++ [s])->w.grownBy w' v.ownBlock->(v'.ownBlock=v.ownBlock\/∃g,v'.ownBlock=some g/\w.heap.size<=g)->R v' w'):Does o a w R:=by
 obtain⟨i,hi,iR,gI,yj⟩:=hE;have h1:∀u∈E.enc s,u.oneCell'=true:=λu hu=>E.one s u hu
 have oz:∀ (j:Nat) (u:Value),(E.enc s)[j]? =some u->w.cell? ((⟨b,0,none⟩:Addr).add j)=some u:=by
  intro j u hu;have e1:((⟨b,0,none⟩:Addr).add j)=⟨b,j,none⟩:=by rw[Addr.add_lit];simp
  rw[e1,hB.cell j];simpa using hu
 have eG:w.ownsRow bs ty k v l.length (E.cells l):=dh.raw rfl hk;obtain⟨v',w',vP,h2,h3,h4,h5⟩:=run_append_own_at (P:=prog) w bs t o.type ty i zv k bytes ht hi iR gI yj hz (by have:=E.pos;omega) v l.length (E.cells l) eG ⟨b,0,none⟩ 1 1 (E.enc s) (by rw[E.len,hk];simp) oz h1 hlen VX hbs;refine Does.val (v:=v') (w':=w') ?_ (hR v' w' ?_ h3 ?_)
 ·unfold execOp;simp only[ho,resolve,invoke,builtin,Sem.run_bind,Sem.run_pure,Result.andThen_ok,ac7,acX,List.map_nil,hx,hy,vP]
 ·unfold LO;rw[hk,E.CG,List.length_append];exact h2
 ·rcases h5 with h5 | h5
  ·exact .inl h5
  ·exact .inr ⟨_,h5,aK⟩
end
end Go.Proofs.YtadnmegdbllaoaaGreatDoor
