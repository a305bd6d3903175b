/- Part of this proof. -/
import Derived.Deep.OwnRows
import Derived.Laws.CopyOwn
import Derived.Carry
import Derived.Maps.OwnSet
import Derived.Test.YtjoiajmbfbjnnaaGreatDoorT15
import Derived.Test.YtjoiajmbfbjnnaaGreatDoorT16
set_option maxRecDepth 100000
set_option maxHeartbeats 8000000
namespace Go.Proofs.YtjoiajmbfbjnnaaGreatDoor
open Go.RowKit Go.Shelf
theorem builderX:Builder.Extra Tryz.prog Tryz.lays105_ren where
 sizeBuilder:=by kernel_rfl
 liesBuilder:=by kernel_rfl
 t5:=Tryz.underlying5
 a5:=Tryz.isAgg5
 z5:=Tryz.sizeOf5
 v5:=Tryz.zeroValue5
 infoByte:=by kernel_rfl
 cellsByte:=by kernel_rfl
 sizeByte:=by kernel_rfl
 neB5:=by decide
theorem srepeat_any(s:ByteArray)(c:Nat)(w:World)(hc:c<=9223372036854775807)(hlen:s.size*c<=140737488355328):
  Calls Tryz.prog 69 #[.string s, .int .i64 c] w fun e w'=>e= .returned (.string ⟨(Lib.repeatL s.data.toList c).toArray⟩)/\Below w.heap.size w w':=Any.strings_Repeat Tryz.lays105 builderX s c w hc hlen
theorem bmul_any(x y:Nat)(hx:x<18446744073709551616)(hy:y<18446744073709551616)(w:World):
  Calls Tryz.prog 132 #[.int .u64 x, .int .u64 y] w fun e w'=>e= .returned (.tuple #[.int .u64 ((x*y / 18446744073709551616:Nat):Int), .int .u64 ((x*y % 18446744073709551616:Nat):Int)])/\w'=w:=Any.bits_Mul Tryz.lays212 x y hx hy w
theorem bmul_one(n:Nat)(hn:n<=16384)(w:World):Calls Tryz.prog 132 #[.int .u64 1, .int .u64 n] w fun e w'=>e= .returned (.tuple #[.int .u64 0, .int .u64 n])/\w'=w:=by
 refine(bmul_any 1 n (by omega) (by omega) w).mono ?_
 rintro e w' ⟨rfl,rfl⟩
 refine⟨?_,rfl⟩
 rw[Nat.one_mul,Nat.div_eq_of_lt (by omega),Nat.mod_eq_of_lt (by omega)];rfl
def rowZ(z:ByteArray)(m n:Nat):Array Value:=(List.replicate m (Value.string z)++List.replicate (n-m) (Value.string ByteArray.empty)).toArray
theorem rowZ_size(z:ByteArray){m n:Nat}(h:m<=n):(rowZ z m n).size=n:=by simp[rowZ];omega
theorem rowZ_made(z:ByteArray)(n:Nat):madeCells #[.string ByteArray.empty] n=rowZ z 0 n:=by
 apply Array.toList_inj.1
 rw[toList_madeCells_one];simp[rowZ]
theorem rowZ_at(z:ByteArray){m n j:Nat}(hj:j<m):(rowZ z m n)[j]? =some (.string z):=by
 simp[rowZ,List.getElem?_append,hj]
theorem rowZ_more(z:ByteArray){m d n:Nat} :(((rowZ z m n).toList.take m++List.replicate d (Value.string z)++(rowZ z m n).toList.drop (m+d)).toArray)=rowZ z (m+d) n:=by
 unfold rowZ
 congr 1
 rw[List.take_left' (by simp),List.drop_append,List.replicate_append_replicate]
 simp
 omega
theorem setRow_blk{w:World}{g:Nat}{t:TypeId}{cs cs':Array Value}(h:Blk w g t cs):Blk (w.setRow g cs') g t cs':=setRow_heap w g cs cs' t (0,0) h
theorem Addr.add_none(b o j:Nat):(⟨b,o,none⟩:Addr).add j=⟨b,o+j,none⟩:=by unfold Addr.add;split<;>simp_all
theorem copyZ{w:World}{g:Nat}{z:ByteArray}{m n d:Nat}(h:Blk w g 9 (rowZ z m n))(hmn:m+d<=n)(a:Addr)(sl sc dl dc:Nat)(hd:d=Nat.min sl dl)(hsrc:∀j,j<d->w.cell? (a.add j)=some (.string z))(ty:TypeId):
  (Builtin.copy_ #[30,30] ty #[.slice (some ⟨g,m,none⟩) dl dc, .slice (some a) sl sc]).run Tryz.prog w= .ok (goInt d) (w.setRow g (rowZ z (m+d) n)):=by
 have:=run_copy_row (P:=Tryz.prog) w 30 30 ty 9 g m dl dc a sl sc (rowZ z m n) 9 (List.replicate d (.string z)) Tryz.underlying30 (by kernel_rfl) h (by simpa using hd)
  (fun j v hj=>by
   obtain⟨h1,h2⟩:=List.getElem?_eq_some_iff.1 hj
   simp at h1 h2
   rw[hsrc j h1,h2]) (by simp[rowZ_size z (by omega:m<=n)];exact hmn) (fun v hv=>by rw[List.eq_of_mem_replicate hv];rfl)
 rw[List.length_replicate,rowZ_more z]at this
 exact this
theorem repeat_any(g c:Nat)(z:ByteArray)(n:Nat)(hn:n<=16384)(w:World)(hB:Blk w g 9 #[.string z]):
  Calls Tryz.prog 70 #[.slice (some ⟨g,0,none⟩) 1 c, .int .i64 n] w fun e w'=>e= .returned (.slice (some ⟨w.heap.size,0,none⟩) n n)/\Blk w' w.heap.size 9 (rowZ z n n)/\Below w.heap.size w w':=by
 have hlt:=hB.lt
 have hmk:=fun W=>run_make_row' (P:=Tryz.prog) 30 9 (.string ByteArray.empty) 16 Tryz.underlying30 (by kernel_rfl) rfl .i64 .i64 n (by omega) (by omega) W
 have hb1:Blk (w.alloc (.cells (rowZ z 0 n) 9)) w.heap.size 9 (rowZ z 0 n):=Blk.new w _ _
 obtain⟨d,hd⟩:∃d,d=Nat.min 1 n:=⟨_,rfl⟩
 have hd1:d<=1/\d<=n/\(0<n->0<d):=by
  have e:d=if 1<=n then 1 else n:=by rw[hd];rfl
  split at e<;>omega
 have hcp:=fun ty=>copyZ (d:=d) hb1 (by omega) ⟨g,0,none⟩ 1 c n n hd (fun j hj=>by
  have hj0:j=0:=by omega
  subst hj0
  exact(hB.alloc (.cells (rowZ z 0 n) 9)).cell 0) ty
 have HB2:=setRow_blk (cs':=rowZ z (0+d) n) hb1
 have HBE:Below w.heap.size w ((w.alloc (.cells (rowZ z 0 n) 9)).setRow w.heap.size (rowZ z (0+d) n)):=below_setRow ((Below.refl _ w).alloc (Nat.le_refl _) _) (Nat.le_refl _) _
 rw[Nat.zero_add]at hcp HB2 HBE
 rw[<-rowZ_made]at hcp HB2 HBE
 generalize hW:(w.alloc (.cells (madeCells #[.string ByteArray.empty] n) 9)).setRow w.heap.size (rowZ z d n)=W1 at*
 clear hb1 hW
 have hM:=fun W=>bmul_one n hn W
 go_enter Tryz.func70,Tryz.ntmps70
 go_wp2_with (go_at_call 132;refine(hM _).mono ?_;rintro e w' ⟨rfl,hw⟩;replace hw:=hw.symm;subst hw)
 go_loopw [8] (fun i wr=>∃m:Nat,m<=n/\i= .int .i64 m/\(0<n->0<m)/\Blk wr w.heap.size 9 (rowZ z m n)/\Below w.heap.size w wr) (fun i _=>n-(intOf i).toNat)
 case atStart=>exact⟨d,hd1.2.1,by rw[hd],hd1.2.2,HB2,HBE⟩
 case round=>
  obtain⟨m,hm,rfl,h0,hb,hbe⟩:=hrel
  by_cases hlt2:m<n
  ·obtain⟨d2,hd2⟩:∃d2,d2=Nat.min m (n-m):=⟨_,rfl⟩
   have h2:0<d2/\d2<=m/\m+d2<=n:=by
    have e:d2=if m<=n-m then m else n-m:=by rw[hd2];rfl
    have:=h0 (by omega)
    split at e<;>omega
   have hc2:=fun ty=>copyZ hb.drew h2.2.2 ⟨w.heap.size,0,none⟩ m n (n-m) (n-m) hd2 (fun j hj=>by
    rw[Addr.add_none,Nat.zero_add,hb.drew.cell,rowZ_at z (by omega)]) ty
   have hne:¬n=m:=by omega
   clear hd2
   go_wp2
   go_region
   go_wp2
   go_roundw
   case rel=>exact⟨m+d2,h2.2.2,by go_num,fun _=>by omega,setRow_blk hb.drew,below_setRow hbe.drew (Nat.le_refl _) _⟩
   case measure=>simp[intOf];omega
  ·obtain rfl:m=n:=by omega
   go_wp2
   go_ret
   exact⟨rfl,hb,hbe⟩
theorem size_alloc_(w:World)(o:Obj):(w.alloc o).heap.size=w.heap.size+1:=by simp
def zeroPage:ByteArray:=⟨(Lib.repeatL [0] 256).toArray⟩
theorem zpage_any(w:World):Calls Tryz.prog 69 #[.string ⟨#[0]⟩, .int .i64 256] w fun e w'=>e= .returned (.string zeroPage)/\Below w.heap.size w w':=
 srepeat_any ⟨#[0]⟩ 256 w (by decide) (by decide)
def diskN(k:Int):Nat:=(min (max k 0) 16384).toNat
theorem dnew_any(k:Int)(w:World):
  Calls Tryz.prog 16 #[.int .i64 k] w fun e w'=>∃d s m,e= .returned (.pointer (some ⟨d,0,none⟩))/\w.heap.size<=d/\w.heap.size<=s/\w.heap.size<=m/\Blk w' s 9 (rowZ zeroPage (diskN k) (diskN k))/\w'.heap[m]? =some (.map #[] 0)/\
   Blk w' d 132 #[.slice (some ⟨s,0,none⟩) (diskN k) (diskN k), .map (some m), .slice none 0 0, .int .i64 (-1), .bool false, .int .i64 0, .int .i64 0]/\Below w.heap.size w w':=by
 have hz:=fun W=>zpage_any W
 have hmm:= @run_makeMap Tryz.prog
 obtain⟨n,hn⟩:∃n,n=diskN k:=⟨_,rfl⟩
 rw[<-hn]
 have hn1:n<=16384/\(n:Int)=min (max k 0) 16384:=by unfold diskN at hn;omega
 generalize zeroPage=z at*
 clear hn
 have hR:=fun g c W h=>repeat_any g c z n hn1.1 W h
 go_enter Tryz.func16,Tryz.ntmps16
 go_wp2_with (go_at_call 69;refine(hz _).mono ?_;rintro e w1 ⟨rfl,b1⟩)
 rw[<-hn1.2]
 refine(hR w1.heap.size 1 _ (Blk.new w1 _ _)).mono ?_
 rintro e w2 ⟨rfl,r2,b2⟩
 rw[size_alloc_]at r2 b2
 have b3:Below w.heap.size w w2:=(b1.alloc b1.size _).trans (b2.mono (by have:=b1.size;omega))
 have hs:=b2.size
 rw[size_alloc_]at hs
 have hs1:=b1.size
 rw[size_alloc_]
 generalize hp:w1.heap.size+1=p at*
 have hlt:=r2.lt
 clear b2 b1 hn1
 go_wp2
 go_ret
 refine⟨w2.heap.size+1,p,w2.heap.size,rfl,by omega,by omega,by omega,(r2.alloc _).alloc _, ?_, ?_,(b3.alloc b3.size _).alloc (by rw[size_alloc_];omega) _⟩
 ·exact(Below.heap_alloc _ _ _ (by rw[size_alloc_];omega)).trans (heap_alloc_new w2 _)
 ·have h:=Blk.new (w2.alloc (Obj.map #[] 0)) 132 #[.slice (some ⟨p,0,none⟩) n n, .map (some w2.heap.size), .slice none 0 0, .int .i64 (-1), .bool false, .int .i64 0, .int .i64 0]
  rwa [size_alloc_]at h
def DiskOf(w:World)(d n:Nat):Prop:=∃cs A c,Blk w d 132 cs/\cs[0]? =some (.slice A n c)
def FileOf(w:World)(f n:Nat):Prop:=∃d,Blk w f 121 #[.pointer (some ⟨d,0,none⟩)]/\DiskOf w d n
theorem dnew_of(k:Int)(w:World):
  Calls Tryz.prog 16 #[.int .i64 k] w fun e w'=>∃d,e= .returned (.pointer (some ⟨d,0,none⟩))/\DiskOf w' d (diskN k)/\Below w.heap.size w w':=by
 refine(dnew_any k w).mono ?_
 rintro e w' ⟨d,s,m,rfl,h1,_,_,_,_,h2,h3⟩
 exact⟨d,rfl,⟨_,_,_,h2,rfl⟩,h3⟩
theorem sectors_any(d n:Nat)(w:World)(hd:DiskOf w d n):Calls Tryz.prog 143 #[.pointer (some ⟨d,0,none⟩)] w fun e w'=>e= .returned (.int .i64 n)/\w'=w:=by
 obtain⟨cs,A,c,h1,h2⟩:=hd
 have hlt:=h1.lt
 have hc:=(h1.cell 0).trans h2
 go_enter Tryz.func143,Tryz.ntmps143
 go_wp2
 go_ret
 exact⟨rfl,rfl⟩
theorem room_any(f n:Nat)(w:World)(hf:FileOf w f n):Calls Tryz.prog 78 #[.pointer (some ⟨f,0,none⟩)] w fun e w'=>e= .returned (.int .i64 (max (n:Int) 2))/\w'=w:=by
 obtain⟨d,h2,h3⟩:=hf
 have hs:=sectors_any d n w h3
 have hlt:=h2.lt
 have hc:=h2.cell 0
 clear h3
 go_enter Tryz.func78,Tryz.ntmps78
 go_wp2_with (go_at_call 143;refine hs.mono ?_;rintro e w' ⟨rfl,hw⟩;replace hw:=hw.symm;subst hw)
 go_ret
 exact⟨rfl,rfl⟩
theorem fnew_any(d n:Nat)(w:World)(hd:DiskOf w d n):Calls Tryz.prog 15 #[.pointer (some ⟨d,0,none⟩)] w fun e w'=>∃f,e= .returned (.pointer (some ⟨f,0,none⟩))/\FileOf w' f n/\Below w.heap.size w w':=by
 go_enter Tryz.func15,Tryz.ntmps15
 go_wp2
 go_ret
 obtain⟨cs,A,c,h1,h2⟩:=hd
 exact⟨_,rfl,⟨d,Blk.new w _ _,cs,A,c,h1.alloc _,h2⟩,(Below.refl _ w).alloc (Nat.le_refl _) _⟩
def heldR(v:Value):Option (DataW Value × List MemPlace):=
 match v with
 | .agg ⟨[.bool _, .int .u8 _, .string _]⟩=>some (.held v, [])
 |_=>none
def content(b:Bool)(q:Int)(s:ByteArray):Value:= .agg #[.bool b, .int .u8 q, .string s]
theorem heldR_mk(b:Bool)(q:Int)(s:ByteArray):heldR (content b q s)=some (.held (content b q s), []):=rfl
theorem heldR_inv{v:Value}{z:DataW Value × List MemPlace}(h:heldR v=some z):∃b q s,v=content b q s/\z=(.held v, []):=by
 unfold heldR at h
 split at h
 ·rename_i b q s
  exact⟨b,q,s,rfl,by cases h;rfl⟩
 ·cases h
theorem keyI{x:Int}(hx:(Lit.int .i64 x).wf=true):keyOf Tryz.prog 3 (.int .i64 x)=some (.int .i64 x):=Maps.keyOf_int_mk Tryz.underlying3 hx
theorem keyedI:Maps.Keyed Tryz.prog 3:=Maps.int_keyed Tryz.underlying3
structure Txn(w:World)(t m f n:Nat)(free:List Run)(pages:Int)(k:Nat)(D:DataW Value):Prop where
 file:FileOf w f n
 self:∃v,Blk w t 143 #[.pointer (some ⟨f,0,none⟩),v, .int .i64 pages, .map (some m)]/\Own w 0 v free
 map:w.ownsMap Tryz.prog 3 heldR m k D
section
variable {w w':World}{t m f n k:Nat}{free:List Run}{pages:Int}{D:DataW Value}
theorem Own.keep{row:Option Nat}{base:Nat}{v:Value}{l:List Run}(h:Own w base v l)(hg:w.grownBy w' row)(hr:∀r,row=some r->∃o,w.heap[r]? =some o/\∀cs,o≠ .cells cs 106 (0,0)):Own w' base v l:=by
 rcases h with⟨h1,h2 | ⟨g,cap,cur,hv,hb,hh,r⟩⟩
 ·exact⟨h1, .inl h2⟩
 ·refine⟨h1, .inr ⟨g,cap,cur,hv,hb,(hg.block g (Array.getElem?_eq_some_iff.1 hh).1 ?_).trans hh,r⟩⟩
  intro e
  obtain⟨o,ho,hne⟩:=hr g e.symm
  rw[hh]at ho;cases ho
  exact hne cur rfl
theorem Blk.keep{row:Option Nat}{g:Nat}{ty:TypeId}{cs:Array Value}(h:Blk w g ty cs)(hg:w.grownBy w' row)(hr:∀r,row=some r->∃o,w.heap[r]? =some o/\∀cs,o≠ .cells cs ty (0,0)):Blk w' g ty cs:=by
 refine(hg.block g h.lt ?_).trans h
 intro e
 obtain⟨o,ho,hne⟩:=hr g e.symm
 unfold Blk at h
 rw[h]at ho;cases ho
 exact hne cs rfl
def Far(o:Obj):Prop:=(∀cs,o≠ .cells cs 106 (0,0))/\(∀cs,o≠ .cells cs 143 (0,0))/\(∀cs,o≠ .cells cs 121 (0,0))/\(∀cs,o≠ .cells cs 132 (0,0))/\∀es c,o≠ .map es c
theorem FileOf.keep{row:Option Nat}(h:FileOf w f n)(hg:w.grownBy w' row)(hr:∀r,row=some r->∃o,w.heap[r]? =some o/\(∀cs,o≠ .cells cs 121 (0,0))/\(∀cs,o≠ .cells cs 132 (0,0))):FileOf w' f n:=by
 obtain⟨d,h1,cs,A,c,h2,h3⟩:=h
 exact⟨d,h1.keep hg (fun r e=>by obtain⟨o,ho,a,b⟩:=hr r e;exact⟨o,ho,a⟩),cs,A,c,h2.keep hg (fun r e=>by obtain⟨o,ho,a,b⟩:=hr r e;exact⟨o,ho,b⟩),h3⟩
theorem Txn.keep{row:Option Nat}(h:Txn w t m f n free pages k D)(hg:w.grownBy w' row)(hr:∀r,row=some r->∃o,w.heap[r]? =some o/\Far o):Txn w' t m f n free pages k D:=by
 obtain⟨h1,⟨v,h2,h3⟩,h4⟩:=h
 refine⟨h1.keep hg (fun r e=> ?_),⟨v,h2.keep hg (fun r e=> ?_),h3.keep hg (fun r e=> ?_)⟩,h4.kept hg (fun e=> ?_)⟩
 ·obtain⟨o,ho,a⟩:=hr r e;exact⟨o,ho,a.2.2.1,a.2.2.2.1⟩
 ·obtain⟨o,ho,a⟩:=hr r e;exact⟨o,ho,a.2.1⟩
 ·obtain⟨o,ho,a⟩:=hr r e;exact⟨o,ho,a.1⟩
 ·obtain⟨o,ho,a⟩:=hr m e.symm
  obtain⟨es,c,hm,_⟩:=h4
  rw[hm]at ho;cases ho
  exact a.2.2.2.2 es c rfl
theorem Txn.below(h:Txn w t m f n free pages k D)(hb:Below w.heap.size w w'):Txn w' t m f n free pages k D:=h.keep (only_of_below hb none) (fun r e=>by cases e)
end
def IdOk(id:Int):Prop:=0<=id/\id<=4294967295
theorem IdOk.wf{id:Int}(h:IdOk id):(Lit.int .i64 id).wf=true:=WalkArith.wf_i64 (by unfold IdOk at h;omega)
def FarS(B:Nat)(w:World)(S:Nat->Prop):Prop:=∀k,S k->B<=k/\∀o,w.heap[k]? =some o->Far o
structure Mach(S:Nat->Prop)(B t:Nat)(room:Int)(disk:Tp.Disk)(TM:Nat->Tp.Pst->World->Prop):Prop where
 low:∀k,S k->k<B
 size:∀ {r σ w},TM r σ w->B<=w.heap.size
 up:∀ {r σ w w' S'},TM r σ w->Fr S' w w'->FarS B w S'->TM r σ w'
 less:∀ {r r' σ w},TM r σ w->r'<=r->TM r' σ w
 ht:∀ {r σ w id n},TM r σ w->σ.view disk id=some n->Nd.fits n=true/\IdOk id
 get:∀ {r σ w id n},TM (r+1) σ w->σ.view disk id=some n->∀k:Nat,(n.leaf=true->k=1)->(n.leaf=false->k=2)->
  Calls Tryz.prog 146 #[.pointer (some ⟨t,0,none⟩), .int .i64 id, .int .u8 k] w fun e w'=>e= .returned (.tuple #[.string (Nd.str (Nd.enc n)), .int .i64 0])/\TM r σ w'/\Fr S w w'
 getN:∀ {r σ w id n},TM (r+1) σ w->σ.view disk id=some n->n.leaf=false->
  Calls Tryz.prog 146 #[.pointer (some ⟨t,0,none⟩), .int .i64 id, .int .u8 1] w fun e w'=>e= .returned (.tuple #[.string ⟨#[]⟩, .int .i64 3])/\TM r σ w'/\Fr S w w'
 fresh:∀ {r σ w} (id:Int),TM r σ w->IdOk id->
  Calls Tryz.prog 240 #[.pointer (some ⟨t,0,none⟩), .int .i64 id] w fun e w'=>e= .returned (.bool (decide (id∈σ.mine)))/\TM r σ w'/\Fr S w w'
 alloc:∀ {r σ σ' w id},TM r σ w->Tp.pAlloc room σ=some (id,σ')->
  Calls Tryz.prog 57 #[.pointer (some ⟨t,0,none⟩)] w fun e w'=>e= .returned (.tuple #[.int .i64 id, .int .i64 0])/\IdOk id/\id∈σ'.mine/\TM r σ' w'/\Fr S w w'
 full:∀ {r σ w},TM r σ w->Tp.pAlloc room σ=none->
  Calls Tryz.prog 57 #[.pointer (some ⟨t,0,none⟩)] w fun e w'=>e= .returned (.tuple #[.int .i64 0, .int .i64 2])/\TM r σ w'/\Fr S w w'
 put:∀ {r σ w id n},TM r σ w->IdOk id->id∈σ.mine->Nd.fits n=true->∀k:Nat,(n.leaf=true->k=1)->(n.leaf=false->k=2)->
  Calls Tryz.prog 246 #[.pointer (some ⟨t,0,none⟩), .int .i64 id, .int .u8 k, .string (Nd.str (Nd.enc n))] w fun e w'=>e= .returned (.int .i64 0)/\TM r (σ.put id n) w'/\Fr S w w'
 drop:∀ {r σ w} (id:Int),TM r σ w->IdOk id->
  Calls Tryz.prog 207 #[.pointer (some ⟨t,0,none⟩), .int .i64 id] w fun e w'=>e= .returned (.tuple #[])/\TM r (Tp.pDrop σ id) w'/\Fr S w w'
section
variable {S S':Nat->Prop}{B t:Nat}{room:Int}{disk:Tp.Disk}{TM:Nat->Tp.Pst->World->Prop}{w w' w'':World}{r:Nat}{σ:Tp.Pst}
theorem Fr.old(h:Fr S' w w')(hS:∀k,S' k->S k\/w.heap.size<=k):Fr S w w':=⟨h.os,h.tape,h.output,h.size,fun k hk hn=>h.block k hk (fun a=>by rcases hS k a with h1 | h1;exact hn h1;omega)⟩
theorem Mach.below(M:Mach S B t room disk TM)(h:TM r σ w)(hb:Below w.heap.size w w'):TM r σ w':=M.up (S':=fun _=>False) h (.of_below hb) (fun _ hk=>hk.elim)
theorem Mach.own(M:Mach S B t room disk TM){g:Nat}{ty:TypeId}{cs:Array Value}(h:TM r σ w)(hf:Fr (fun k=>k=g) w w')(hB:Blk w g ty cs)(hg:B<=g)(h1:ty≠106)(h2:ty≠143)(h3:ty≠121)(h4:ty≠132):TM r σ w':=
 M.up h hf (fun k hk=>by
  subst hk
  refine⟨hg,fun o ho=> ?_⟩
  have e:o= .cells cs ty:=by have:=ho.symm.trans hB;injection this
  subst e
  exact⟨fun cs' e=>by injection e with _ e;exact h1 e,fun cs' e=>by injection e with _ e;exact h2 e,fun cs' e=>by injection e with _ e;exact h3 e,fun cs' e=>by injection e with _ e;exact h4 e,fun _ _ e=>by cases e⟩)
def TreeV(t:Nat)(root e:Int):Array Value:= #[.pointer (some ⟨t,0,none⟩), .int .i64 root, .int .i64 e]
end
section
variable {S:Nat->Prop}{B t:Nat}{room:Int}{disk:Tp.Disk}{TM:Nat->Tp.Pst->World->Prop}
structure On(S:Nat->Prop)(B t u:Nat)(TM:Nat->Tp.Pst->World->Prop)(root e:Int)(r:Nat)(σ:Tp.Pst)(w:World):Prop where
 tm:TM r σ w
 self:Blk w u 140 (TreeV t root e)
 hu:B<=u
section
variable {root e:Int}{r:Nat}{σ σ':Tp.Pst}{w w':World}{u:Nat}
theorem On.below(M:Mach S B t room disk TM)(h:On S B t u TM root e r σ w)(hb:Below w.heap.size w w'):On S B t u TM root e r σ w':=⟨M.below h.tm hb,h.self.below hb h.self.lt,h.hu⟩
theorem On.step(M:Mach S B t room disk TM)(h:On S B t u TM root e r σ w){r':Nat}(ht:TM r' σ' w')(hf:Fr S w w'):On S B t u TM root e r' σ' w':=⟨ht,hf.blk h.self (fun a=>by have:=M.low u a;have:=h.hu;omega),h.hu⟩
theorem On.own(M:Mach S B t room disk TM)(h:On S B t u TM root e r σ w){g:Nat}{ty:TypeId}{cs:Array Value}(hf:Fr (fun k=>k=g) w w')(hB:Blk w g ty cs)(hg:B<=g)(h0:g≠u)(h1:ty≠106)(h2:ty≠143)(h3:ty≠121)(h4:ty≠132):On S B t u TM root e r σ w':=
 ⟨M.own h.tm hf hB hg h1 h2 h3 h4,hf.blk h.self (fun a=>h0 a.symm),h.hu⟩
theorem On.less(M:Mach S B t room disk TM)(h:On S B t u TM root e r σ w){r':Nat}(hr:r'<=r):On S B t u TM root e r' σ w:=⟨M.less h.tm hr,h.self,h.hu⟩
end
theorem Mach.far(M:Mach S B t room disk TM){g:Nat}(hg:B<=g):¬S g:=fun a=>by have:=M.low g a;omega
def LoadEnd(S:Nat->Prop)(B t u:Nat)(TM:Nat->Tp.Pst->World->Prop)(root er:Int)(r:Nat)(σ:Tp.Pst)(n:Nd.Node)(w:World)(e:Ending)(w':World):Prop:=
 ∃v,e= .returned (.tuple #[v, .int .i64 0])/\NF w.heap.size w' v n/\On S B t u TM root er r σ w'/\Fr S w w'
theorem load_any(M:Mach S B t room disk TM)(u:Nat)(root er:Int)(r:Nat)(σ:Tp.Pst)(id:Int)(d:Nat)(n:Nd.Node)(hv:σ.view disk id=some n)(hd:d<24)(w:World)(h:On S B t u TM root er (r+2) σ w):
  Calls Tryz.prog 80 #[.pointer (some ⟨u,0,none⟩), .int .i64 id, .int .i64 (d:Nat)] w (LoadEnd S B t u TM root er r σ n w):=by
 obtain⟨hfit,hidok⟩:=M.ht h.tm hv
 have hb1:=(Below.refl w.heap.size w).alloc (Nat.le_refl _) (.cells #[.bool false, .slice none 0 0, .slice none 0 0, .slice none 0 0] 32)
 have h1:=h.below M hb1
 have hBg:=Blk.new w 32 #[.bool false, .slice none 0 0, .slice none 0 0, .slice none 0 0]
 have hsz:=M.size h.tm
 have hd1:¬24<=(d:Int):=by omega
 have c0:(w.alloc (.cells #[.bool false, .slice none 0 0, .slice none 0 0, .slice none 0 0] 32)).cell? ⟨u,0,none⟩=some (.pointer (some ⟨t,0,none⟩)):=h1.self.cell 0
 have lu:=h1.self.lt
 have hun:u<w.heap.size:=h.self.lt
 have HFIT:=Lib.hid hfit
 have HM:=Lib.hid M
 have HV:=Lib.hid hv
 cases hlf:n.leaf with
 |true=>
  have hG:=Lib.hid (fun W (hW:TM (r+1+1) σ W)=>M.get hW hv 1 (fun _=>rfl) (fun h=>by rw[hlf]at h;cases h))
  have hk:Nd.kind n=1:=by unfold Nd.kind;rw[if_pos hlf]
  have hD:=Lib.hid (fun W=>ndecode_any n hfit W)
  rw[hk]at hD
  generalize Nd.str (Nd.enc n)=s at*
  have H1:=Lib.hid h1
  have HBG:=Lib.hid hBg
  have HB1:=Lib.hid hb1
  clear hlf hk h1 hBg hb1 hfit hv h M
  go_enter Tryz.func80,Tryz.ntmps80
  go_wp2_with fail
  refine(hG.out _ H1.out.tm).mono ?_
  rintro e w1 ⟨rfl,ht1,hf1⟩
  have h1:=H1.out.step HM.out ht1 hf1
  have hBg:=hf1.blk HBG.out (HM.out.far hsz)
  have hfw:Fr S w w1:=(Fr.of_below HB1.out).trans hf1
  have hz1:=hf1.size
  have H2:=Lib.hid h1
  have HBG:=Lib.hid hBg
  have HFW:=Lib.hid hfw
  clear ht1 hf1 h1 hBg hfw
  simp only[World.size_alloc]at hz1
  go_wp2_with fail
  refine(hD.out _).mono ?_
  rintro e w2 ⟨v,rfl,hnf,hb2⟩
  have hz2:=hb2.size
  have h2:=H2.out.below HM.out hb2
  have hBg:=HBG.out.below hb2 HBG.out.lt
  have hfw:=HFW.out.trans (.of_below hb2)
  obtain⟨A1,k1,A2,k2,A3,k3,rfl,rr⟩:=hnf
  have f0:=hBg.frozen 0
  have f1:=hBg.frozen 1
  have f2:=hBg.frozen 2
  have f3:=hBg.frozen 3
  have c0:=hBg.cell 0
  have c1:=hBg.cell 1
  have c2:=hBg.cell 2
  have c3:=hBg.cell 3
  have lg:=hBg.lt
  have H3:=Lib.hid h2
  have HBG:=Lib.hid hBg
  have HFW:=Lib.hid hfw
  have HRR:=Lib.hid rr
  clear h2 hBg hfw rr hb2
  unfold nodeV
  go_wp2
  try simp only[Exit.inBlock,Exit.then]
  refine bodyPost_ret (res_cell_tmp node_struct rfl rfl (HBG.out.put4 _ _ _ _) rfl) rfl ?_
  have hfr:∀a b c d,Fr (fun k=>k=w.heap.size) w2 _:=fun a b c d=>Fr.put4 (w:=w2) (g:=w.heap.size) (S:=fun k=>k=w.heap.size) rfl a b c d
  exact⟨_,rfl,NF.lower (NF.fr ⟨A1,k1,A2,k2,A3,k3,rfl,HRR.out⟩ (hfr _ _ _ _) (fun k hk=>by omega)) (by omega),(H3.out.less HM.out (Nat.le_succ _)).own HM.out (hfr _ _ _ _) HBG.out hsz (by omega) (by decide) (by decide) (by decide) (by decide),Fr.old (S':=fun k=>S k\/k=w.heap.size) ((HFW.out.more fun _=> .inl).trans ((hfr _ _ _ _).more fun _=> .inr)) (fun k hk=>hk.imp_right fun e=>by omega)⟩
 |false=>
  have hN:=Lib.hid (fun W (hW:TM (r+1+1) σ W)=>M.getN hW hv hlf)
  have hG:=Lib.hid (fun W (hW:TM (r+1) σ W)=>M.get hW hv 2 (fun h=>by rw[hlf]at h;cases h) (fun _=>rfl))
  have hk:Nd.kind n=2:=by unfold Nd.kind;rw[if_neg (by rw[hlf];simp)]
  have hD:=Lib.hid (fun W=>ndecode_any n hfit W)
  rw[hk]at hD
  generalize Nd.str (Nd.enc n)=s at*
  have H1:=Lib.hid h1
  have HBG:=Lib.hid hBg
  have HB1:=Lib.hid hb1
  clear hlf hk h1 hBg hb1 hfit hv h M
  go_enter Tryz.func80,Tryz.ntmps80
  go_wp2_with fail
  refine(hN.out _ H1.out.tm).mono ?_
  rintro e w0 ⟨rfl,ht0,hf0⟩
  have h0:=H1.out.step HM.out ht0 hf0
  have c00:w0.cell? ⟨u,0,none⟩=some (.pointer (some ⟨t,0,none⟩)):=h0.self.cell 0
  have lu0:=h0.self.lt
  have H0:=Lib.hid h0
  have HF0:=Lib.hid hf0
  have hz0:=hf0.size
  simp only[World.size_alloc]at hz0
  clear ht0 hf0 h0
  go_wp2_with fail
  refine(hG.out _ H0.out.tm).mono ?_
  rintro e w1 ⟨rfl,ht1,hf1⟩
  have h1:=H0.out.step HM.out ht1 hf1
  have hBg:=(HF0.out.trans hf1).blk HBG.out (HM.out.far hsz)
  have hfw:Fr S w w1:=((Fr.of_below HB1.out).trans HF0.out).trans hf1
  have hz1:=hf1.size
  have H2:=Lib.hid h1
  have HBG:=Lib.hid hBg
  have HFW:=Lib.hid hfw
  clear ht1 hf1 h1 hBg hfw
  go_wp2_with fail
  refine(hD.out _).mono ?_
  rintro e w2 ⟨v,rfl,hnf,hb2⟩
  have hz2:=hb2.size
  have h2:=H2.out.below HM.out hb2
  have hBg:=HBG.out.below hb2 HBG.out.lt
  have hfw:=HFW.out.trans (.of_below hb2)
  obtain⟨A1,k1,A2,k2,A3,k3,rfl,rr⟩:=hnf
  have f0:=hBg.frozen 0
  have f1:=hBg.frozen 1
  have f2:=hBg.frozen 2
  have f3:=hBg.frozen 3
  have c0:=hBg.cell 0
  have c1:=hBg.cell 1
  have c2:=hBg.cell 2
  have c3:=hBg.cell 3
  have lg:=hBg.lt
  have H3:=Lib.hid h2
  have HBG:=Lib.hid hBg
  have HFW:=Lib.hid hfw
  have HRR:=Lib.hid rr
  clear h2 hBg hfw rr hb2
  unfold nodeV
  go_wp2
  try simp only[Exit.inBlock,Exit.then]
  refine bodyPost_ret (res_cell_tmp node_struct rfl rfl (HBG.out.put4 _ _ _ _) rfl) rfl ?_
  have hfr:∀a b c d,Fr (fun k=>k=w.heap.size) w2 _:=fun a b c d=>Fr.put4 (w:=w2) (g:=w.heap.size) (S:=fun k=>k=w.heap.size) rfl a b c d
  exact⟨_,rfl,NF.lower (NF.fr ⟨A1,k1,A2,k2,A3,k3,rfl,HRR.out⟩ (hfr _ _ _ _) (fun k hk=>by omega)) (by omega),H3.out.own HM.out (hfr _ _ _ _) HBG.out hsz (by omega) (by decide) (by decide) (by decide) (by decide),Fr.old (S':=fun k=>S k\/k=w.heap.size) ((HFW.out.more fun _=> .inl).trans ((hfr _ _ _ _).more fun _=> .inr)) (fun k hk=>hk.imp_right fun e=>by omega)⟩
end
theorem Fr.cell{S:Nat->Prop}{w w':World}(h:Fr S w w'){p:Addr}(hp:p.block<w.heap.size)(hn:¬S p.block):w'.cell? p=w.cell? p:=World.cell?_of_block (h.block _ hp hn)
def BadGet(S:Nat->Prop)(t:Nat)(TM:Nat->Tp.Pst->World->Prop)(bad:Int->Prop):Prop:=
 ∀ {r σ w id},TM (r+1) σ w->bad id->∀k:Nat,k=1\/k=2->Calls Tryz.prog 146 #[.pointer (some ⟨t,0,none⟩), .int .i64 id, .int .u8 k] w fun e w'=>e= .returned (.tuple #[.string ⟨#[]⟩, .int .i64 3])/\TM r σ w'/\Fr S w w'
section
variable {S:Nat->Prop}{B t:Nat}{room:Int}{disk:Tp.Disk}{TM:Nat->Tp.Pst->World->Prop}{bad:Int->Prop}
def GetS(S:Nat->Prop)(t:Nat)(TM:Nat->Tp.Pst->World->Prop)(r:Nat)(σ:Tp.Pst)(id:Int)(k:Nat)(s:ByteArray)(z:Int):Prop:=
 ∀w,TM (r+1) σ w->Calls Tryz.prog 146 #[.pointer (some ⟨t,0,none⟩), .int .i64 id, .int .u8 k] w fun e w'=>e= .returned (.tuple #[.string s, .int .i64 z])/\TM r σ w'/\Fr S w w'
end
end Go.Proofs.YtjoiajmbfbjnnaaGreatDoor
namespace Mk
open Nd En Tp
def push:List Int->List Int->List Int->List Int × List Int
 |met,st, []=>(met,st)
 |met,st,i::r=>if i≠0/\i ∉ met then push (met++ [i]) (st++ [i]) r else push met st r
def readM(v:Int->Option Node)(met st:List Int)(id:Int):Option (List Int × List Int):=(v id).map fun n=>push met st n.kids
def run(v:Int->Option Node):Nat->List Int->List Int->List Int->Option (List Int)
 |0,_,_,_=>none
 |f+1,met,st,out=>match st.getLast? with
  |none=>some out
  |some id=>match readM v met st.dropLast id with
   |none=>none
   |some (met',st')=>run v f met' st' (out++ [id])
end Mk
namespace Go.Proofs.YtjoiajmbfbjnnaaGreatDoor
open Go.RowKit Go.Shelf
def pagesN(pages:Int)(n:Nat):Int:=min (max pages 2) (max (n:Int) 2)
theorem tnew_any(f n:Nat)(A:Option Addr)(c:Nat)(l:List Run)(pages:Int)(hn:n<=16384)(w:World)(hf:FileOf w f n)(hr:RS w w.heap.size A l)(hl:l.length<=50000):
  Calls Tryz.prog 20 #[.pointer (some ⟨f,0,none⟩), .slice A l.length c, .int .i64 pages] w fun e w'=>∃t m,e= .returned (.pointer (some ⟨t,0,none⟩))/\(w.heap.size<=t/\w.heap.size<=m)/\Txn w' t m f n (Rp.meet l [(2,pagesN pages n-1)]) (pagesN pages n) 0 (.map [])/\Below w.heap.size w w':=by
 obtain⟨p,hp⟩:∃p,p=pagesN pages n:=⟨_,rfl⟩
 rw[<-hp]
 have hp1:2<=p/\p<=16384/\p=min (max pages 2) (max (n:Int) 2):=by unfold pagesN at hp;omega
 have hroom:=room_any f n w hf
 have hmm:= @run_makeMap Tryz.prog
 have hm:=fun W h=>hid_calls (meet_any A (some ⟨W.heap.size,0,none⟩) c 1 l [(2,p-1)] _ h (RS.single W 2 (p-1) 106) (by omega) (by simp))
 obtain⟨o,ho⟩:∃o,o=Rp.meet l [(2,p-1)]:=⟨_,rfl⟩
 rw[<-ho]at hm ⊢
 clear ho hp
 go_enter Tryz.func20,Tryz.ntmps20
 go_wp2_with (go_at_call 78;refine hroom.mono ?_;rintro e w' ⟨rfl,hw⟩;replace hw:=hw.symm;subst hw)
 rw[<-hp1.2.2]
 refine(hm w ((hr.below ((Below.refl _ w).alloc (Nat.le_refl _) _)).more (by simp))).out.mono ?_
 intro e w2 he
 obtain⟨A1,c1,rfl,ho1,r1,b1⟩:=he.open_
 clear he hm
 have b3:Below w.heap.size w w2:=((Below.refl _ w).alloc (Nat.le_refl _) _).trans (b1.mono (by simp))
 have hf2:=hf.keep (only_of_below b3 none) (fun r e=>by cases e)
 have ho2:Own w2 0 (.slice A1 o.length c1) o:=ownsRow_lower ho1 (Nat.zero_le _)
 clear b1 ho1 r1 hp1
 go_wp2
 go_ret
 refine⟨w2.heap.size+1,w2.heap.size,rfl,⟨by have:=b3.size;omega,b3.size⟩,⟨(hf2.keep (World.grownBy_alloc w2 _ none) (fun r e=>by cases e)).keep (World.grownBy_alloc _ _ none) (fun r e=>by cases e),⟨_, ?_,(ho2.keep (World.grownBy_alloc w2 _ none) (fun r e=>by cases e)).keep (World.grownBy_alloc _ _ none) (fun r e=>by cases e)⟩,(World.ownsMap_made w2 _ _ _).alloc _⟩,(b3.alloc b3.size _).alloc (by have:=b3.size;rw[size_alloc_];omega) _⟩
 have h:=Blk.new (w2.alloc (Obj.map #[] 0)) 143 #[.pointer (some ⟨f,0,none⟩), .slice A1 o.length c1, .int .i64 p, .map (some w2.heap.size)]
 rwa [size_alloc_]at h
theorem tfresh_any(t m f n k:Nat)(free:List Run)(pages:Int)(D:DataW Value)(id:Int)(hid:(Lit.int .i64 id).wf=true)(w:World)(h:Txn w t m f n free pages k D):
  Calls Tryz.prog 240 #[.pointer (some ⟨t,0,none⟩), .int .i64 id] w fun e w'=>e= .returned (.bool (Maps.has D (.int .i64 id)))/\Below w.heap.size w w':=by
 obtain⟨_,⟨v,h2,h3⟩,h4⟩:=h
 have hlt:=h2.lt
 have hc:=h2.cell 3
 obtain⟨u,ps,hrun,hu⟩:=h4.look_ok keyedI Tryz.underlying141 (Tryz.zeroValue156 w) (heldR_mk _ _ _) (keyI hid)
 obtain⟨b,q,s,rfl,_⟩:=heldR_inv hu
 unfold content at hrun
 clear hu
 generalize Maps.has D (.int .i64 id)=hh at*
 go_enter Tryz.func240,Tryz.ntmps240
 go_wp2
 go_ret
 exact⟨rfl,(Below.refl _ w).alloc (Nat.le_refl _) _⟩
structure Touch(t m:Nat)(w w':World):Prop where
 os:w'.os=w.os
 tape:w'.tape=w.tape
 output:w'.output=w.output
 size:w.heap.size<=w'.heap.size
 block:∀k,k<w.heap.size->k≠t->k≠m->w'.heap[k]? =w.heap[k]?
section
variable {t m:Nat}{w w' w'':World}
theorem Touch.of_below(h:Below w.heap.size w w'):Touch t m w w':=⟨h.os,h.tape,h.output,h.size,fun k hk _ _=>h.block k hk⟩
theorem Touch.trans(h:Touch t m w w')(h':Touch t m w' w''):Touch t m w w'':=
 ⟨h'.os.trans h.os,h'.tape.trans h.tape,h'.output.trans h.output,Nat.le_trans h.size h'.size,fun k hk a b=>(h'.block k (Nat.lt_of_lt_of_le hk h.size) a b).trans (h.block k hk a b)⟩
theorem Touch.of_grown{r:Nat}(h:w.grownBy w' (some r))(hr:r=t\/r=m):Touch t m w w':=
 ⟨h.os,h.tape,h.output,h.size,fun k hk a b=>h.block k hk (fun e=>by injection e with e;omega)⟩
end
section
variable {w w':World}{t m f n k:Nat}{free:List Run}{pages:Int}{D:DataW Value}
theorem Txn.setFree(h:Txn w t m f n free pages k D){v:Value}{fr:List Run}(hv:Own w 0 v fr):Txn (w.setCell ⟨t,1,none⟩ v) t m f n fr pages k D:=by
 obtain⟨h1,⟨u,h2,h3⟩,h4⟩:=h
 have hg:w.grownBy (w.setCell ⟨t,1,none⟩ v) (some t):=only_setCell (World.grownBy.refl w _) (.inl rfl) _
 have hb:∀ty,ty≠143->∀r,some t=some r->∃o,w.heap[r]? =some o/\∀cs,o≠ .cells cs ty (0,0):=fun ty hne r e=>by
  cases e;exact⟨_,h2,fun cs e=>by injection e with _ e;exact hne e.symm⟩
 have hne:t≠m:=fun e=>by obtain⟨es,c,hm,_⟩:=h4;subst e;unfold Blk at h2;rw[h2]at hm;cases hm
 refine⟨h1.keep hg (fun r e=> ?_),⟨v,h2.set_ 1 v,hv.keep hg (hb _ (by decide))⟩,h4.setCell (fun e=>hne e.symm) _⟩
 cases e
 exact⟨_,h2,(fun cs e=>by injection e with _ e;cases e),(fun cs e=>by injection e with _ e;cases e)⟩
theorem Txn.setPages(h:Txn w t m f n free pages k D)(p:Int):Txn (w.setCell ⟨t,2,none⟩ (.int .i64 p)) t m f n free p k D:=by
 obtain⟨h1,⟨u,h2,h3⟩,h4⟩:=h
 have hg:w.grownBy (w.setCell ⟨t,2,none⟩ (.int .i64 p)) (some t):=only_setCell (World.grownBy.refl w _) (.inl rfl) _
 have hne:t≠m:=fun e=>by obtain⟨es,c,hm,_⟩:=h4;subst e;unfold Blk at h2;rw[h2]at hm;cases hm
 refine⟨h1.keep hg (fun r e=> ?_),⟨u,h2.set_ 2 _,h3.keep hg (fun r e=> ?_)⟩,h4.setCell (fun e=>hne e.symm) _⟩
 ·cases e
  exact⟨_,h2,(fun cs e=>by injection e with _ e;cases e),(fun cs e=>by injection e with _ e;cases e)⟩
 ·cases e
  exact⟨_,h2,fun cs e=>by injection e with _ e;cases e⟩
theorem Txn.turn(h:Txn w t m f n free pages k D){k':Nat}{D':DataW Value}(hg:w.grownBy w' (some m))(hm:w'.ownsMap Tryz.prog 3 heldR m k' D'):Txn w' t m f n free pages k' D':=by
 obtain⟨h1,⟨u,h2,h3⟩,h4⟩:=h
 obtain⟨es,c,hm0,_⟩:=h4
 refine⟨h1.keep hg (fun r e=> ?_),⟨u,h2.keep hg (fun r e=> ?_),h3.keep hg (fun r e=> ?_)⟩,hm⟩
 all_goals cases e
 ·exact⟨_,hm0,(fun cs e=>by cases e),(fun cs e=>by cases e)⟩
 ·exact⟨_,hm0,fun cs e=>by cases e⟩
 ·exact⟨_,hm0,fun cs e=>by cases e⟩
theorem Touch.set_{w:World}{t m i:Nat}(v:Value):Touch t m w (w.setCell ⟨t,i,none⟩ v):=Touch.of_grown (only_setCell (World.grownBy.refl w (some t)) (.inl rfl) _) (.inl rfl)
theorem wfI{x:Int}(h: -9223372036854775808<=x/\x<=9223372036854775807):(Lit.int .i64 x).wf=true:=WalkArith.wf_i64 h
theorem Txn.store(h:Txn w t m f n free pages k D)(hk:k<maxLen){id:Int}(hid:(Lit.int .i64 id).wf=true)(b:Bool)(q:Int)(s:ByteArray):
  ∃w',(Instr.mapUpdate 141 (.map (some m)) (.int .i64 id) (.agg #[.bool b, .int .u8 q, .string s])).run Tryz.prog w= .ok () w'/\Txn w' t m f n free pages (k+1) (D.put (.int .i64 id) (.held (content b q s)))/\w.grownBy w' (some m):=by
 obtain⟨w',h1,h2,h3⟩:=h.map.store keyedI Tryz.underlying141 hk (keyI hid) (heldR_mk b q s)
 exact⟨w',h1,h.turn h3.grown h2,h3.grown⟩
end
def allocV(free:List Run)(pages room:Int):Option (Int × List Run × Int):=
 match firstR free with
 |some id=>some (id,Rp.minus free [(id,id)],pages)
 |none=>if room<=pages then none else some (pages,free,pages+1)
def AllocEnd(o:Option (Int × List Run × Int))(t m f n:Nat)(free:List Run)(pages:Int)(k:Nat)(D:DataW Value)(w:World)(e:Ending)(w':World):Prop:=
 Touch t m w w'/\match o with
 |none=>e= .returned (.tuple #[.int .i64 0, .int .i64 2])/\Txn w' t m f n free pages k D
 |some (id,fr,p)=>e= .returned (.tuple #[.int .i64 id, .int .i64 0])/\Txn w' t m f n fr p (k+1) (D.put (.int .i64 id) (.held (content false 0 ⟨#[]⟩)))
theorem AllocEnd.some_{o:Option (Int × List Run × Int)}{t m f n k:Nat}{free fr:List Run}{pages p id:Int}{D:DataW Value}{w w':World}(ho:o=some (id,fr,p))(h:Touch t m w w')(h':Txn w' t m f n fr p (k+1) (D.put (.int .i64 id) (.held (content false 0 ⟨#[]⟩)))):
  AllocEnd o t m f n free pages k D w (.returned (.tuple #[.int .i64 id, .int .i64 0])) w':=by subst ho;exact⟨h,rfl,h'⟩
theorem AllocEnd.none_{o:Option (Int × List Run × Int)}{t m f n k:Nat}{free:List Run}{pages:Int}{D:DataW Value}{w w':World}(ho:o=none)(h:Touch t m w w')(h':Txn w' t m f n free pages k D):
  AllocEnd o t m f n free pages k D w (.returned (.tuple #[.int .i64 0, .int .i64 2])) w':=by subst ho;exact⟨h,rfl,h'⟩
theorem mem_evs{l:List Run}{x:Int} :x∈evs l ↔ ∃r∈l,r.1<=x/\x<=r.2:=by
 unfold evs
 rw[List.mem_flatMap]
 constructor
 ·rintro⟨r,hr,hx⟩
  refine⟨r,hr, ?_⟩
  unfold runL cnt at hx
  obtain⟨i,hi,rfl⟩:=List.mem_map.1 hx
  rw[List.mem_range]at hi
  omega
 ·rintro⟨r,hr,h1,h2⟩
  refine⟨r,hr,List.mem_map.2 ⟨(x-r.1).toNat, ?_,by omega⟩⟩
  rw[List.mem_range];unfold cnt;omega
theorem firstR_in{l:List Run}{x:Int}(h:firstR l=some x):0<=x/\x<=4294967295:=by
 unfold firstR at h
 have hx:=List.mem_of_head? h
 obtain⟨r,hr,h1,h2⟩:=mem_evs.1 hx
 have:=canon_run _ 0 (Int.le_refl _) (Rp.norm_ok l).1 r hr
 omega
theorem talloc_some(t m f n k:Nat)(free:List Run)(pages:Int)(D:DataW Value)(id:Int)(hid:firstR free=some id)(hl:free.length<=80000)(hk:k<maxLen)(w:World)(h:Txn w t m f n free pages k D)(o:Option (Int × List Run × Int))(ho:o=some (id,Rp.minus free [(id,id)],pages)):
  Calls Tryz.prog 57 #[.pointer (some ⟨t,0,none⟩)] w (AllocEnd o t m f n free pages k D w):=by
 have hin:=firstR_in hid
 have hT:=h
 obtain⟨_,⟨v,h2,h3⟩,_⟩:=h
 obtain⟨A,c,rfl⟩:=h3.form
 have hlt:=h2.lt
 have hc:=h2.cell 1
 have hF:=hid_calls (first_any A c free (by omega) w h3.rs)
 rw[hid]at hF
 have hRm:=fun W h=>hid_calls (remove_any A c free id W h (by omega))
 have HO:=Lib.hid ho
 clear ho
 generalize Rp.minus free [(id,id)]=fr at*
 go_enter Tryz.func57,Tryz.ntmps57
 go_wp2_with fail
 refine hF.out.mono ?_
 rintro e w1 ⟨rfl,b1⟩
 have hT1:=hT.below b1
 have h21:=h2.below b1 hlt
 have h31:=h3.keep (only_of_below b1 none) (fun r e=>by cases e)
 have hlt1:=h21.lt
 have hc1:=h21.cell 1
 have hc3:=h21.cell 3
 go_wp2_with fail
 refine(hRm w1 h31.rs).out.mono ?_
 intro e w2 he
 obtain⟨A2,c2,rfl,ho2,r2,b2⟩:=he.open_
 clear he hRm hF
 have ho0:Own w2 0 (.slice A2 fr.length c2) fr:=ho2.lower (Nat.zero_le _)
 have hT2:=(hT1.below b2).setFree ho0
 have h22:=h21.below b2 hlt1
 have hlt2:=h22.lt
 have hcc1:=h22.cell 1
 have hcf:=h22.frozen 1
 have h23:=h22.set_ 1 (.slice A2 fr.length c2)
 have hlt3:=h23.lt
 have hcc3:=h23.cell 3
 obtain⟨w4,hrun,hT4,hg4⟩:=hT2.store hk (wfI (x:=id) (by omega)) false 0 ⟨#[]⟩
 have hTo:Touch t m w w4:=((Touch.of_below b1).trans ((Touch.of_below b2).trans (Touch.set_ _))).trans (Touch.of_grown hg4 (.inr rfl))
 clear hT hT1 hT2 h2 h3 h21 h31 ho0 ho2 r2 b1 b2 hg4
 go_wp2
 go_ret2
 exact AllocEnd.some_ HO.out hTo hT4
theorem talloc_none(t m f n k:Nat)(free:List Run)(pages:Int)(D:DataW Value)(hid:firstR free=none)(hl:free.length<=80000)(hk:k<maxLen)(hp:0<=pages/\pages<=1000000)(w:World)(h:Txn w t m f n free pages k D)(o:Option (Int × List Run × Int))(ho:o=if max (n:Int) 2<=pages then none else some (pages,free,pages+1)):
  Calls Tryz.prog 57 #[.pointer (some ⟨t,0,none⟩)] w (AllocEnd o t m f n free pages k D w):=by
 have hT:=h
 obtain⟨hf,⟨v,h2,h3⟩,_⟩:=h
 obtain⟨A,c,rfl⟩:=h3.form
 have hlt:=h2.lt
 have hc:=h2.cell 1
 have hF:=hid_calls (first_any A c free (by omega) w h3.rs)
 rw[hid]at hF
 have HO:=Lib.hid ho
 clear ho
 go_enter Tryz.func57,Tryz.ntmps57
 go_wp2_with fail
 refine hF.out.mono ?_
 rintro e w1 ⟨rfl,b1⟩
 have hT1:=hT.below b1
 have hf1:=hf.keep (only_of_below b1 none) (fun r e=>by cases e)
 have h21:=h2.below b1 hlt
 have hlt1:=h21.lt
 have hc0:=h21.cell 0
 have hc2:=h21.cell 2
 have hc3:=h21.cell 3
 have hR:=fun W h=>room_any f n W h
 by_cases hfull:max (n:Int) 2<=pages
 ·have ho:o=none:=by rw[HO.out,if_pos hfull]
  clear HO
  go_wp2_with fail
  go_quiet ((go_at_call 78;refine Calls.quiet_of_same (hR _ hf1)))
  have bq:=below_drewN b1 nq
  generalize w1.drewN nq=W1 at*
  have hTq:=hT.below bq
  go_wp2
  go_ret2
  exact AllocEnd.none_ ho (Touch.of_below bq) hTq
 ·have ho:o=some (pages,free,pages+1):=by rw[HO.out,if_neg hfull]
  clear HO
  go_wp2_with fail
  go_quiet ((go_at_call 78;refine Calls.quiet_of_same (hR _ hf1)))
  have bq:=below_drewN b1 nq
  generalize w1.drewN nq=W1 at*
  have hTq:=hT.below bq
  have h2q:=h2.below bq hlt
  have hcf:=h2q.frozen 2
  have hltq:=h2q.lt
  have hcq2:=h2q.cell 2
  have hT2:=hTq.setPages (pages+1)
  have h22:=h2q.set_ 2 (.int .i64 (pages+1))
  have hlt2:=h22.lt
  have hcc3:=h22.cell 3
  obtain⟨w4,hrun,hT4,hg4⟩:=hT2.store hk (wfI (x:=pages) (by omega)) false 0 ⟨#[]⟩
  have hTo:Touch t m w w4:=((Touch.of_below bq).trans (Touch.set_ _)).trans (Touch.of_grown hg4 (.inr rfl))
  clear hT hTq hT1 hT2 h2 h3 h21 hg4
  go_wp2
  go_ret2
  exact AllocEnd.some_ ho hTo hT4
theorem talloc_any(t m f n k:Nat)(free:List Run)(pages:Int)(D:DataW Value)(hl:free.length<=80000)(hk:k<maxLen)(hp:0<=pages/\pages<=1000000)(w:World)(h:Txn w t m f n free pages k D):
  Calls Tryz.prog 57 #[.pointer (some ⟨t,0,none⟩)] w (AllocEnd (allocV free pages (max (n:Int) 2)) t m f n free pages k D w):=by
 cases hid:firstR free with
 |none=>exact talloc_none t m f n k free pages D hid hl hk hp w h _ (by unfold allocV;rw[hid])
 |some id=>exact talloc_some t m f n k free pages D id hid hl hk w h _ (by unfold allocV;rw[hid])
section
variable {w w':World}{t m f n k:Nat}{free:List Run}{pages:Int}{D:DataW Value}
theorem Txn.del(h:Txn w t m f n free pages k D){id:Int}(hid:(Lit.int .i64 id).wf=true)(ty:TypeId):
  ∃w',(Builtin.delete_ #[141,3] ty #[.map (some m), .int .i64 id]).run Tryz.prog w= .ok (.tuple #[]) w'/\Txn w' t m f n free pages k (D.del (.int .i64 id))/\w.grownBy w' (some m):=by
 obtain⟨w',h1,h2,h3⟩:=h.map.drop keyedI Tryz.underlying141 (keyI hid) ty
 exact⟨w',h1,h.turn h3.grown h2,h3.grown⟩
end
def dropF(free:List Run)(D:DataW Value)(id:Int):List Run:=if Maps.has D (.int .i64 id)then Rp.union free [(id,id)]else free
def DropEnd(t m f n:Nat)(fr:List Run)(pages:Int)(k:Nat)(D':DataW Value)(w:World)(e:Ending)(w':World):Prop:=
 e= .returned (.tuple #[])/\Touch t m w w'/\Txn w' t m f n fr pages k D'
theorem tdrop_yes(t m f n k:Nat)(free:List Run)(pages:Int)(D:DataW Value)(id:Int)(hid:(Lit.int .i64 id).wf=true)(hl:free.length<=80000)(hh:Maps.has D (.int .i64 id)=true)(w:World)(h:Txn w t m f n free pages k D):
  Calls Tryz.prog 207 #[.pointer (some ⟨t,0,none⟩), .int .i64 id] w (DropEnd t m f n (Rp.union free [(id,id)]) pages k (D.del (.int .i64 id)) w):=by
 have hF:=hid_calls (tfresh_any t m f n k free pages D id hid w h)
 rw[hh]at hF
 have hT:=h
 obtain⟨_,⟨v,h2,h3⟩,_⟩:=h
 obtain⟨A,c,rfl⟩:=h3.form
 have hlt:=h2.lt
 have hRm:=fun W h=>hid_calls (add_any A c free id W h (by omega))
 generalize Rp.union free [(id,id)]=fr at*
 go_enter Tryz.func207,Tryz.ntmps207
 go_wp2_with fail
 refine hF.out.mono ?_
 rintro e w1 ⟨rfl,b1⟩
 have hT1:=hT.below b1
 have h21:=h2.below b1 hlt
 have hlt1:=h21.lt
 have hc3:=h21.cell 3
 obtain⟨w2,hrun,hT2,hg2⟩:=hT1.del hid 0
 have h22:=h21.keep hg2 (fun r e=>by
  cases e
  obtain⟨es,cl,hm0,_⟩:=hT1.map
  exact⟨_,hm0,fun cs e=>by cases e⟩)
 have h3w1:=h3.keep (only_of_below b1 none) (fun r e=>by cases e)
 have h32:=h3w1.keep hg2 (fun r e=>by
  cases e
  obtain⟨es,cl,hm0,_⟩:=hT1.map
  exact⟨_,hm0,fun cs e=>by cases e⟩)
 have hlt2:=h22.lt
 have hc1:=h22.cell 1
 go_wp2_with fail
 refine(hRm w2 h32.rs).out.mono ?_
 intro e w3 he
 obtain⟨A2,c2,rfl,ho2,r2,b2⟩:=he.open_
 clear he hRm hF
 have ho0:Own w3 0 (.slice A2 fr.length c2) fr:=ho2.lower (Nat.zero_le _)
 have hT3:=(hT2.below b2).setFree ho0
 have h23:=h22.below b2 hlt2
 have hlt3:=h23.lt
 have hcc1:=h23.cell 1
 have hcf:=h23.frozen 1
 have hTo:=((Touch.of_below (t:=t) (m:=m) b1).trans (Touch.of_grown hg2 (.inr rfl))).trans ((Touch.of_below b2).trans (Touch.set_ (i:=1) (.slice A2 fr.length c2)))
 clear hT hT1 hT2 h2 h3 h21 h3w1 h32 ho0 ho2 r2 b1 b2 hg2
 go_wp2
 go_end0
 exact⟨rfl,hTo,hT3⟩
theorem tdrop_no(t m f n k:Nat)(free:List Run)(pages:Int)(D:DataW Value)(id:Int)(hid:(Lit.int .i64 id).wf=true)(hh:Maps.has D (.int .i64 id)=false)(w:World)(h:Txn w t m f n free pages k D):
  Calls Tryz.prog 207 #[.pointer (some ⟨t,0,none⟩), .int .i64 id] w (DropEnd t m f n free pages k D w):=by
 have hF:=hid_calls (tfresh_any t m f n k free pages D id hid w h)
 rw[hh]at hF
 go_enter Tryz.func207,Tryz.ntmps207
 go_wp2_with fail
 refine hF.out.mono ?_
 rintro e w1 ⟨rfl,b1⟩
 have hT1:=h.below b1
 go_wp2
 go_end0
 exact⟨rfl,Touch.of_below b1,hT1⟩
def dropD(D:DataW Value)(id:Int):DataW Value:=if Maps.has D (.int .i64 id)then D.del (.int .i64 id)else D
theorem tdrop_any(t m f n k:Nat)(free:List Run)(pages:Int)(D:DataW Value)(id:Int)(hid:(Lit.int .i64 id).wf=true)(hl:free.length<=80000)(w:World)(h:Txn w t m f n free pages k D):
  Calls Tryz.prog 207 #[.pointer (some ⟨t,0,none⟩), .int .i64 id] w (DropEnd t m f n (dropF free D id) pages k (dropD D id) w):=by
 cases hh:Maps.has D (.int .i64 id)with
 |true=>rw[show dropF free D id=Rp.union free [(id,id)]by unfold dropF;rw[hh];rfl,show dropD D id=D.del (.int .i64 id)by unfold dropD;rw[hh];rfl];exact tdrop_yes t m f n k free pages D id hid hl hh w h
 |false=>rw[show dropF free D id=free by unfold dropF;rw[hh];rfl,show dropD D id=D by unfold dropD;rw[hh];rfl];exact tdrop_no t m f n k free pages D id hid hh w h
def PutEnd(E:Int)(t m f n:Nat)(free:List Run)(pages:Int)(k:Nat)(D':DataW Value)(w:World)(e:Ending)(w':World):Prop:=
 e= .returned (.int .i64 E)/\Touch t m w w'/\Txn w' t m f n free pages k D'
theorem tput_yes(t m f n k:Nat)(free:List Run)(pages:Int)(D:DataW Value)(id q:Int)(s:ByteArray)(hid:(Lit.int .i64 id).wf=true)(hk:k<maxLen)(hh:Maps.has D (.int .i64 id)=true)(hs:s.size<=240)(w:World)(h:Txn w t m f n free pages k D):
  Calls Tryz.prog 246 #[.pointer (some ⟨t,0,none⟩), .int .i64 id, .int .u8 q, .string s] w (PutEnd 0 t m f n free pages (k+1) (D.put (.int .i64 id) (.held (content true q s))) w):=by
 have hF:=hid_calls (tfresh_any t m f n k free pages D id hid w h)
 rw[hh]at hF
 have hT:=h
 obtain⟨_,⟨v,h2,h3⟩,_⟩:=h
 go_enter Tryz.func246,Tryz.ntmps246
 go_wp2_with fail
 refine hF.out.mono ?_
 rintro e w1 ⟨rfl,b1⟩
 have hT1:=hT.below b1
 have h21:=h2.below b1 h2.lt
 have hlt1:=h21.lt
 have hc3:=h21.cell 3
 obtain⟨w2,hrun,hT2,hg2⟩:=hT1.store hk hid true q s
 have hTo:=(Touch.of_below (t:=t) b1).trans (Touch.of_grown hg2 (.inr rfl))
 clear hT hT1 h2 h3 h21 hg2 b1
 go_wp2
 go_ret
 exact⟨rfl,hTo,hT2⟩
theorem has_putI{D:DataW Value}(h:Maps.IsMap D)(id x:Int)(v:DataW Value):Maps.has (D.put (.int .i64 id) v) (.int .i64 x)=(decide (x=id)||Maps.has D (.int .i64 x)):=by
 by_cases e:x=id
 ·subst e
  rw[Maps.has_put_same h (by trivial)];simp
 ·rw[Maps.has_put_other (by intro e2;injection e2 with _ e2;exact e e2)];simp[e]
theorem has_delI(D:DataW Value)(id x:Int):Maps.has (D.del (.int .i64 id)) (.int .i64 x)=(!decide (x=id)&&Maps.has D (.int .i64 x)):=by
 by_cases e:x=id
 ·subst e
  rw[Maps.has_del_same];simp
 ·rw[Maps.has_del_other (by intro e2;injection e2 with _ e2;exact e e2)];simp[e]
end Go.Proofs.YtjoiajmbfbjnnaaGreatDoor
