/- Part of this proof. -/
import Derived.Deep.OwnRows
import Derived.Laws.CopyOwn
import Derived.Carry
import Derived.Maps.OwnSet
import Derived.Laws.LoneSync
import Derived.RangeFuncOwn
import Derived.Laws.BitsAllLaws
import Derived.Laws.BitsLemmas
import Derived.Test.YteppebbmnojapaaGreatDoorL06
import Derived.Test.YteppebbmnojapaaGreatDoorL07
set_option maxRecDepth 100000
set_option maxHeartbeats 8000000
namespace Go.Proofs.YteppebbmnojapaaGreatDoor
open Go.RowKit Go.Shelf
theorem Vd:Builder.Extra Tryz.prog Tryz.lays105_ren where
 sizeBuilder:=by kernel_rfl
 liesBuilder:=by kernel_rfl
 t5:=Tryz.underlying5
 a5:=Tryz.isAgg5
 z5:=Tryz.sizeOf5
 v5:=Tryz.zeroValue5
 infoByte:=by kernel_rfl
 cellsByte:=by kernel_rfl
 sizeByte:=by kernel_rfl
 neB5:=by decide
theorem yK(s:ByteArray)(c:Nat)(w:World)(hc:c<=9223372036854775807)(hlen:s.size*c<=140737488355328):
  Calls Tryz.prog 58 #[.string s, .int .i64 c] w fun e w'=>e= .returned (.string ⟨(Lib.repeatL s.data.toList c).toArray⟩)/\Below w.heap.size w w':=Any.strings_Repeat Tryz.lays105 Vd s c w hc hlen
theorem Ve(x y:Nat)(hx:x<18446744073709551616)(hy:y<18446744073709551616)(w:World):
  Calls Tryz.prog 125 #[.int .u64 x, .int .u64 y] w fun e w'=>e= .returned (.tuple #[.int .u64 ((x*y / 18446744073709551616:Nat):Int), .int .u64 ((x*y % 18446744073709551616:Nat):Int)])/\w'=w:=Any.bits_Mul Tryz.lays212 x y hx hy w
theorem Vf(n:Nat)(hn:n<=16384)(w:World):Calls Tryz.prog 125 #[.int .u64 1, .int .u64 n] w fun e w'=>e= .returned (.tuple #[.int .u64 0, .int .u64 n])/\w'=w:=by
 refine(Ve 1 n (by omega) (by omega) w).mono ?_
 rintro e w' ⟨rfl,rfl⟩
 refine⟨?_,rfl⟩
 rw[Nat.one_mul,Nat.div_eq_of_lt (by omega),Nat.mod_eq_of_lt (by omega)];rfl
def kY(z:ByteArray)(m n:Nat):Array Value:=(List.replicate m (Value.string z)++List.replicate (n-m) (Value.string ByteArray.empty)).toArray
theorem QT(z:ByteArray){m n:Nat}(h:m<=n):(kY z m n).size=n:=by simp[kY];omega
theorem QU(z:ByteArray)(n:Nat):madeCells #[.string ByteArray.empty] n=kY z 0 n:=by
 apply Array.toList_inj.1
 rw[toList_madeCells_one];simp[kY]
theorem YL(z:ByteArray){m n j:Nat}(hj:j<m):(kY z m n)[j]? =some (.string z):=by
 simp[kY,List.getElem?_append,hj]
theorem QV(z:ByteArray){m d n:Nat} :(((kY z m n).toList.take m++List.replicate d (Value.string z)++(kY z m n).toList.drop (m+d)).toArray)=kY z (m+d) n:=by
 unfold kY
 congr 1
 rw[List.take_left' (by simp),List.drop_append,List.replicate_append_replicate]
 simp
 omega
theorem AO{w:World}{g:Nat}{t:TypeId}{cs cs':Array Value}(h:Blk w g t cs):Blk (w.setRow g cs') g t cs':=setRow_heap w g cs cs' t (0,0) h
theorem Addr.Vg(b o j:Nat):(⟨b,o,none⟩:Addr).add j=⟨b,o+j,none⟩:=by unfold Addr.add;split<;>simp_all
theorem aaw{w:World}{g:Nat}{z:ByteArray}{m n d:Nat}(h:Blk w g 9 (kY z m n))(hmn:m+d<=n)(a:Addr)(sl sc dl dc:Nat)(hd:d=Nat.min sl dl)(hsrc:∀j,j<d->w.cell? (a.add j)=some (.string z))(ty:TypeId):
  (Builtin.copy_ #[107,107] ty #[.slice (some ⟨g,m,none⟩) dl dc, .slice (some a) sl sc]).run Tryz.prog w= .ok (goInt d) (w.setRow g (kY z (m+d) n)):=by
 have:=run_copy_row (P:=Tryz.prog) w 107 107 ty 9 g m dl dc a sl sc (kY z m n) 9 (List.replicate d (.string z)) Tryz.underlying107 (by kernel_rfl) h (by simpa using hd)
  (fun j v hj=>by
   obtain⟨h1,h2⟩:=List.getElem?_eq_some_iff.1 hj
   simp at h1 h2
   rw[hsrc j h1,h2]) (by simp[QT z (by omega:m<=n)];exact hmn) (fun v hv=>by rw[List.eq_of_mem_replicate hv];rfl)
 rw[List.length_replicate,QV z]at this
 exact this
theorem MP(g c:Nat)(z:ByteArray)(n:Nat)(hn:n<=16384)(w:World)(hB:Blk w g 9 #[.string z]):
  Calls Tryz.prog 59 #[.slice (some ⟨g,0,none⟩) 1 c, .int .i64 n] w fun e w'=>e= .returned (.slice (some ⟨w.heap.size,0,none⟩) n n)/\Blk w' w.heap.size 9 (kY z n n)/\Below w.heap.size w w':=by
 have hlt:=hB.lt
 have hmk:=fun W=>run_make_row' (P:=Tryz.prog) 107 9 (.string ByteArray.empty) 16 Tryz.underlying107 (by kernel_rfl) rfl .i64 .i64 n (by omega) (by omega) W
 have hb1:Blk (w.alloc (.cells (kY z 0 n) 9)) w.heap.size 9 (kY z 0 n):=Blk.new w _ _
 obtain⟨d,hd⟩:∃d,d=Nat.min 1 n:=⟨_,rfl⟩
 have hd1:d<=1/\d<=n/\(0<n->0<d):=by
  have e:d=if 1<=n then 1 else n:=by rw[hd];rfl
  split at e<;>omega
 have hcp:=fun ty=>aaw (d:=d) hb1 (by omega) ⟨g,0,none⟩ 1 c n n hd (fun j hj=>by
  have hj0:j=0:=by omega
  subst hj0
  exact(hB.alloc (.cells (kY z 0 n) 9)).cell 0) ty
 have HB2:=AO (cs':=kY z (0+d) n) hb1
 have HBE:Below w.heap.size w ((w.alloc (.cells (kY z 0 n) 9)).setRow w.heap.size (kY z (0+d) n)):=below_setRow ((Below.refl _ w).alloc (Nat.le_refl _) _) (Nat.le_refl _) _
 rw[Nat.zero_add]at hcp HB2 HBE
 rw[<-QU]at hcp HB2 HBE
 generalize hW:(w.alloc (.cells (madeCells #[.string ByteArray.empty] n) 9)).setRow w.heap.size (kY z d n)=W1 at*
 clear hb1 hW
 have hM:=fun W=>Vf n hn W
 go_enter Tryz.func59,Tryz.ntmps59
 go_wp2_with (go_at_call 125;refine(hM _).mono ?_;rintro e w' ⟨rfl,hw⟩;replace hw:=hw.symm;subst hw)
 go_loopw [8] (fun i wr=>∃m:Nat,m<=n/\i= .int .i64 m/\(0<n->0<m)/\Blk wr w.heap.size 9 (kY z m n)/\Below w.heap.size w wr) (fun i _=>n-(intOf i).toNat)
 case atStart=>exact⟨d,hd1.2.1,by rw[hd],hd1.2.2,HB2,HBE⟩
 case round=>
  obtain⟨m,hm,rfl,h0,hb,hbe⟩:=hrel
  by_cases hlt2:m<n
  ·obtain⟨d2,hd2⟩:∃d2,d2=Nat.min m (n-m):=⟨_,rfl⟩
   have h2:0<d2/\d2<=m/\m+d2<=n:=by
    have e:d2=if m<=n-m then m else n-m:=by rw[hd2];rfl
    have:=h0 (by omega)
    split at e<;>omega
   have hc2:=fun ty=>aaw hb.drew h2.2.2 ⟨w.heap.size,0,none⟩ m n (n-m) (n-m) hd2 (fun j hj=>by
    rw[Addr.Vg,Nat.zero_add,hb.drew.cell,YL z (by omega)]) ty
   have hne:¬n=m:=by omega
   clear hd2
   go_wp2
   go_region
   go_wp2
   go_roundw
   case rel=>exact⟨m+d2,h2.2.2,by go_num,fun _=>by omega,AO hb.drew,below_setRow hbe.drew (Nat.le_refl _) _⟩
   case measure=>simp[intOf];omega
  ·obtain rfl:m=n:=by omega
   go_wp2
   go_ret
   exact⟨rfl,hb,hbe⟩
theorem gU(w:World)(o:Obj):(w.alloc o).heap.size=w.heap.size+1:=by simp
def oG:ByteArray:=⟨(Lib.repeatL [0] 256).toArray⟩
theorem QW(w:World):Calls Tryz.prog 58 #[.string ⟨#[0]⟩, .int .i64 256] w fun e w'=>e= .returned (.string oG)/\Below w.heap.size w w':=
 yK ⟨#[0]⟩ 256 w (by decide) (by decide)
def qK(k:Int):Nat:=(min (max k 0) 16384).toNat
theorem Vh(k:Int)(w:World):
  Calls Tryz.prog 12 #[.int .i64 k] w fun e w'=>∃d s m,e= .returned (.pointer (some ⟨d,0,none⟩))/\w.heap.size<=d/\w.heap.size<=s/\w.heap.size<=m/\Blk w' s 9 (kY oG (qK k) (qK k))/\w'.heap[m]? =some (.map #[] 0)/\
   Blk w' d 117 #[.slice (some ⟨s,0,none⟩) (qK k) (qK k), .map (some m), .slice none 0 0, .int .i64 (-1), .bool false, .int .i64 0, .int .i64 0]/\Below w.heap.size w w':=by
 have hz:=fun W=>QW W
 have hmm:= @run_makeMap Tryz.prog
 obtain⟨n,hn⟩:∃n,n=qK k:=⟨_,rfl⟩
 rw[<-hn]
 have hn1:n<=16384/\(n:Int)=min (max k 0) 16384:=by unfold qK at hn;omega
 generalize oG=z at*
 clear hn
 have hR:=fun g c W h=>MP g c z n hn1.1 W h
 go_enter Tryz.func12,Tryz.ntmps12
 go_wp2_with (go_at_call 58;refine(hz _).mono ?_;rintro e w1 ⟨rfl,b1⟩)
 rw[<-hn1.2]
 refine(hR w1.heap.size 1 _ (Blk.new w1 _ _)).mono ?_
 rintro e w2 ⟨rfl,r2,b2⟩
 rw[gU]at r2 b2
 have b3:Below w.heap.size w w2:=(b1.alloc b1.size _).trans (b2.mono (by have:=b1.size;omega))
 have hs:=b2.size
 rw[gU]at hs
 have hs1:=b1.size
 rw[gU]
 generalize hp:w1.heap.size+1=p at*
 have hlt:=r2.lt
 clear b2 b1 hn1
 go_wp2
 go_ret
 refine⟨w2.heap.size+1,p,w2.heap.size,rfl,by omega,by omega,by omega,(r2.alloc _).alloc _, ?_, ?_,(b3.alloc b3.size _).alloc (by rw[gU];omega) _⟩
 ·exact(Below.heap_alloc _ _ _ (by rw[gU];omega)).trans (heap_alloc_new w2 _)
 ·have h:=Blk.new (w2.alloc (Obj.map #[] 0)) 117 #[.slice (some ⟨p,0,none⟩) n n, .map (some w2.heap.size), .slice none 0 0, .int .i64 (-1), .bool false, .int .i64 0, .int .i64 0]
  rwa [gU]at h
def MQ(w:World)(d n:Nat):Prop:=∃cs A c,Blk w d 117 cs/\cs[0]? =some (.slice A n c)
def qL(w:World)(f n:Nat):Prop:=∃d,Blk w f 119 #[.pointer (some ⟨d,0,none⟩)]/\MQ w d n
theorem yL(d n:Nat)(w:World)(hd:MQ w d n):Calls Tryz.prog 131 #[.pointer (some ⟨d,0,none⟩)] w fun e w'=>e= .returned (.int .i64 n)/\w'=w:=by
 obtain⟨cs,A,c,h1,h2⟩:=hd
 have hlt:=h1.lt
 have hc:=(h1.cell 0).trans h2
 go_enter Tryz.func131,Tryz.ntmps131
 go_wp2
 go_ret
 exact⟨rfl,rfl⟩
theorem IZ(f n:Nat)(w:World)(hf:qL w f n):Calls Tryz.prog 60 #[.pointer (some ⟨f,0,none⟩)] w fun e w'=>e= .returned (.int .i64 (max (n:Int) 2))/\w'=w:=by
 obtain⟨d,h2,h3⟩:=hf
 have hs:=yL d n w h3
 have hlt:=h2.lt
 have hc:=h2.cell 0
 clear h3
 go_enter Tryz.func60,Tryz.ntmps60
 go_wp2_with (go_at_call 131;refine hs.mono ?_;rintro e w' ⟨rfl,hw⟩;replace hw:=hw.symm;subst hw)
 go_ret
 exact⟨rfl,rfl⟩
def I4(v:Value):Option (DataW Value × List MemPlace):=
 match v with
 | .agg ⟨[.bool _, .int .u8 _, .string _]⟩=>some (.held v, [])
 |_=>none
def content(b:Bool)(q:Int)(s:ByteArray):Value:= .agg #[.bool b, .int .u8 q, .string s]
theorem oH(b:Bool)(q:Int)(s:ByteArray):I4 (content b q s)=some (.held (content b q s), []):=rfl
theorem oI{v:Value}{z:DataW Value × List MemPlace}(h:I4 v=some z):∃b q s,v=content b q s/\z=(.held v, []):=by
 unfold I4 at h
 split at h
 ·rename_i b q s
  exact⟨b,q,s,rfl,by cases h;rfl⟩
 ·cases h
theorem MR{x:Int}(hx:(Lit.int .i64 x).wf=true):keyOf Tryz.prog 3 (.int .i64 x)=some (.int .i64 x):=Maps.keyOf_int_mk Tryz.underlying3 hx
theorem qM:Maps.Keyed Tryz.prog 3:=Maps.int_keyed Tryz.underlying3
structure Txn(w:World)(t m f n:Nat)(free:List Run)(pages:Int)(k:Nat)(D:DataW Value):Prop where
 file:qL w f n
 self:∃v,Blk w t 122 #[.pointer (some ⟨f,0,none⟩),v, .int .i64 pages, .map (some m)]/\Own w 0 v free
 map:w.ownsMap Tryz.prog 3 I4 m k D
section
variable {w w':World}{t m f n k:Nat}{free:List Run}{pages:Int}{D:DataW Value}
theorem Own.keep{row:Option Nat}{base:Nat}{v:Value}{l:List Run}(h:Own w base v l)(hg:w.grownBy w' row)(hr:∀r,row=some r->∃o,w.heap[r]? =some o/\∀cs,o≠ .cells cs 64 (0,0)):Own w' base v l:=by
 rcases h with⟨h1,h2 | ⟨g,cap,cur,hv,hb,hh,r⟩⟩
 ·exact⟨h1, .inl h2⟩
 ·refine⟨h1, .inr ⟨g,cap,cur,hv,hb,(hg.block g (Array.getElem?_eq_some_iff.1 hh).1 ?_).trans hh,r⟩⟩
  intro e
  obtain⟨o,ho,hne⟩:=hr g e.symm
  rw[hh]at ho;cases ho
  exact hne cur rfl
theorem Blk.keep{row:Option Nat}{g:Nat}{ty:TypeId}{cs:Array Value}(h:Blk w g ty cs)(hg:w.grownBy w' row)(hr:∀r,row=some r->∃o,w.heap[r]? =some o/\∀cs,o≠ .cells cs ty (0,0)):Blk w' g ty cs:=by
 refine(hg.block g h.lt ?_).trans h
 intro e
 obtain⟨o,ho,hne⟩:=hr g e.symm
 unfold Blk at h
 rw[h]at ho;cases ho
 exact hne cs rfl
def Far(o:Obj):Prop:=(∀cs,o≠ .cells cs 64 (0,0))/\(∀cs,o≠ .cells cs 122 (0,0))/\(∀cs,o≠ .cells cs 119 (0,0))/\(∀cs,o≠ .cells cs 117 (0,0))/\∀es c,o≠ .map es c
theorem qL.keep{row:Option Nat}(h:qL w f n)(hg:w.grownBy w' row)(hr:∀r,row=some r->∃o,w.heap[r]? =some o/\(∀cs,o≠ .cells cs 119 (0,0))/\(∀cs,o≠ .cells cs 117 (0,0))):qL w' f n:=by
 obtain⟨d,h1,cs,A,c,h2,h3⟩:=h
 exact⟨d,h1.keep hg (fun r e=>by obtain⟨o,ho,a,b⟩:=hr r e;exact⟨o,ho,a⟩),cs,A,c,h2.keep hg (fun r e=>by obtain⟨o,ho,a,b⟩:=hr r e;exact⟨o,ho,b⟩),h3⟩
theorem Txn.keep{row:Option Nat}(h:Txn w t m f n free pages k D)(hg:w.grownBy w' row)(hr:∀r,row=some r->∃o,w.heap[r]? =some o/\Far o):Txn w' t m f n free pages k D:=by
 obtain⟨h1,⟨v,h2,h3⟩,h4⟩:=h
 refine⟨h1.keep hg (fun r e=> ?_),⟨v,h2.keep hg (fun r e=> ?_),h3.keep hg (fun r e=> ?_)⟩,h4.kept hg (fun e=> ?_)⟩
 ·obtain⟨o,ho,a⟩:=hr r e;exact⟨o,ho,a.2.2.1,a.2.2.2.1⟩
 ·obtain⟨o,ho,a⟩:=hr r e;exact⟨o,ho,a.2.1⟩
 ·obtain⟨o,ho,a⟩:=hr r e;exact⟨o,ho,a.1⟩
 ·obtain⟨o,ho,a⟩:=hr m e.symm
  obtain⟨es,c,hm,_⟩:=h4
  rw[hm]at ho;cases ho
  exact a.2.2.2.2 es c rfl
theorem Txn.below(h:Txn w t m f n free pages k D)(hb:Below w.heap.size w w'):Txn w' t m f n free pages k D:=h.keep (fV hb none) (fun r e=>by cases e)
end
def iD(pages:Int)(n:Nat):Int:=min (max pages 2) (max (n:Int) 2)
theorem Vj(f n:Nat)(A:Option Addr)(c:Nat)(l:List Run)(pages:Int)(hn:n<=16384)(w:World)(hf:qL w f n)(hr:RS w w.heap.size A l)(hl:l.length<=50000):
  Calls Tryz.prog 14 #[.pointer (some ⟨f,0,none⟩), .slice A l.length c, .int .i64 pages] w fun e w'=>∃t m,e= .returned (.pointer (some ⟨t,0,none⟩))/\(w.heap.size<=t/\w.heap.size<=m)/\Txn w' t m f n (Rp.meet l [(2,iD pages n-1)]) (iD pages n) 0 (.map [])/\Below w.heap.size w w':=by
 obtain⟨p,hp⟩:∃p,p=iD pages n:=⟨_,rfl⟩
 rw[<-hp]
 have hp1:2<=p/\p<=16384/\p=min (max pages 2) (max (n:Int) 2):=by unfold iD at hp;omega
 have hroom:=IZ f n w hf
 have hmm:= @run_makeMap Tryz.prog
 have hm:=fun W h=>ak (oD A (some ⟨W.heap.size,0,none⟩) c 1 l [(2,p-1)] _ h (RS.single W 2 (p-1) 64) (by omega) (by simp))
 obtain⟨o,ho⟩:∃o,o=Rp.meet l [(2,p-1)]:=⟨_,rfl⟩
 rw[<-ho]at hm ⊢
 clear ho hp
 go_enter Tryz.func14,Tryz.ntmps14
 go_wp2_with (go_at_call 60;refine hroom.mono ?_;rintro e w' ⟨rfl,hw⟩;replace hw:=hw.symm;subst hw)
 rw[<-hp1.2.2]
 refine(hm w ((hr.below ((Below.refl _ w).alloc (Nat.le_refl _) _)).more (by simp))).out.mono ?_
 intro e w2 he
 obtain⟨A1,c1,rfl,ho1,r1,b1⟩:=he.open_
 clear he hm
 have b3:Below w.heap.size w w2:=((Below.refl _ w).alloc (Nat.le_refl _) _).trans (b1.mono (by simp))
 have hf2:=hf.keep (fV b3 none) (fun r e=>by cases e)
 have ho2:Own w2 0 (.slice A1 o.length c1) o:=uo ho1 (Nat.zero_le _)
 clear b1 ho1 r1 hp1
 go_wp2
 go_ret
 refine⟨w2.heap.size+1,w2.heap.size,rfl,⟨by have:=b3.size;omega,b3.size⟩,⟨(hf2.keep (World.grownBy_alloc w2 _ none) (fun r e=>by cases e)).keep (World.grownBy_alloc _ _ none) (fun r e=>by cases e),⟨_, ?_,(ho2.keep (World.grownBy_alloc w2 _ none) (fun r e=>by cases e)).keep (World.grownBy_alloc _ _ none) (fun r e=>by cases e)⟩,(World.ownsMap_made w2 _ _ _).alloc _⟩,(b3.alloc b3.size _).alloc (by have:=b3.size;rw[gU];omega) _⟩
 have h:=Blk.new (w2.alloc (Obj.map #[] 0)) 122 #[.pointer (some ⟨f,0,none⟩), .slice A1 o.length c1, .int .i64 p, .map (some w2.heap.size)]
 rwa [gU]at h
theorem MV(t m f n k:Nat)(free:List Run)(pages:Int)(D:DataW Value)(w:World)(h:Txn w t m f n free pages k D):
  Calls Tryz.prog 17 #[.pointer (some ⟨t,0,none⟩)] w fun e w'=>e= .returned (.int .i64 pages)/\w'=w:=by
 obtain⟨_,⟨v,h2,_⟩,_⟩:=h
 have hlt:=h2.lt
 have hc:=h2.cell 2
 go_enter Tryz.func17,Tryz.ntmps17
 go_wp2
 go_ret
 exact⟨rfl,rfl⟩
theorem QX(t m f n k:Nat)(free:List Run)(pages:Int)(D:DataW Value)(w:World)(h:Txn w t m f n free pages k D)(hl:free.length<=1000000):
  Calls Tryz.prog 77 #[.pointer (some ⟨t,0,none⟩)] w (gW free w):=by
 obtain⟨_,⟨v,h2,h3⟩,_⟩:=h
 have hlt:=h2.lt
 have hc:=h2.cell 1
 obtain⟨A,c,rfl⟩:=h3.form
 have hcl:=ak (clone_any A c free w (fun e=>by
  subst e
  rcases h3.2 with⟨e,h0⟩ | ⟨g,cap,cur,e,_⟩
  ·injection e with _ e1 e2;exact⟨e1,e2⟩
  ·cases e) h3.rs hl)
 go_enter Tryz.func77,Tryz.ntmps77
 go_wp2_with fail
 refine hcl.out.mono ?_
 intro e w1 he
 obtain⟨A1,c1,rfl,ho1,r1,b1⟩:=he.open_
 clear he
 go_wp2
 go_ret
 exact⟨_,rfl,ho1,b1⟩
theorem qc(t m f n k:Nat)(free:List Run)(pages:Int)(D:DataW Value)(id:Int)(hid:(Lit.int .i64 id).wf=true)(w:World)(h:Txn w t m f n free pages k D):
  Calls Tryz.prog 296 #[.pointer (some ⟨t,0,none⟩), .int .i64 id] w fun e w'=>e= .returned (.bool (Maps.has D (.int .i64 id)))/\Below w.heap.size w w':=by
 obtain⟨_,⟨v,h2,h3⟩,h4⟩:=h
 have hlt:=h2.lt
 have hc:=h2.cell 3
 obtain⟨u,ps,hrun,hu⟩:=h4.look_ok qM Tryz.underlying120 (Tryz.zeroValue131 w) (oH _ _ _) (MR hid)
 obtain⟨b,q,s,rfl,_⟩:=oI hu
 unfold content at hrun
 clear hu
 generalize Maps.has D (.int .i64 id)=hh at*
 go_enter Tryz.func296,Tryz.ntmps296
 go_wp2
 go_ret
 exact⟨rfl,(Below.refl _ w).alloc (Nat.le_refl _) _⟩
structure Touch(t m:Nat)(w w':World):Prop where
 os:w'.os=w.os
 tape:w'.tape=w.tape
 output:w'.output=w.output
 size:w.heap.size<=w'.heap.size
 block:∀k,k<w.heap.size->k≠t->k≠m->w'.heap[k]? =w.heap[k]?
section
variable {t m:Nat}{w w' w'':World}
theorem Touch.of_below(h:Below w.heap.size w w'):Touch t m w w':=⟨h.os,h.tape,h.output,h.size,fun k hk _ _=>h.block k hk⟩
theorem Touch.trans(h:Touch t m w w')(h':Touch t m w' w''):Touch t m w w'':=
 ⟨h'.os.trans h.os,h'.tape.trans h.tape,h'.output.trans h.output,Nat.le_trans h.size h'.size,fun k hk a b=>(h'.block k (Nat.lt_of_lt_of_le hk h.size) a b).trans (h.block k hk a b)⟩
theorem Touch.bW{r:Nat}(h:w.grownBy w' (some r))(hr:r=t\/r=m):Touch t m w w':=
 ⟨h.os,h.tape,h.output,h.size,fun k hk a b=>h.block k hk (fun e=>by injection e with e;omega)⟩
end
section
variable {w w':World}{t m f n k:Nat}{free:List Run}{pages:Int}{D:DataW Value}
theorem Txn.Pv(h:Txn w t m f n free pages k D){v:Value}{fr:List Run}(hv:Own w 0 v fr):Txn (w.setCell ⟨t,1,none⟩ v) t m f n fr pages k D:=by
 obtain⟨h1,⟨u,h2,h3⟩,h4⟩:=h
 have hg:w.grownBy (w.setCell ⟨t,1,none⟩ v) (some t):=aQ (World.grownBy.refl w _) (.inl rfl) _
 have hb:∀ty,ty≠122->∀r,some t=some r->∃o,w.heap[r]? =some o/\∀cs,o≠ .cells cs ty (0,0):=fun ty hne r e=>by
  cases e;exact⟨_,h2,fun cs e=>by injection e with _ e;exact hne e.symm⟩
 have hne:t≠m:=fun e=>by obtain⟨es,c,hm,_⟩:=h4;subst e;unfold Blk at h2;rw[h2]at hm;cases hm
 refine⟨h1.keep hg (fun r e=> ?_),⟨v,h2.aW 1 v,hv.keep hg (hb _ (by decide))⟩,h4.setCell (fun e=>hne e.symm) _⟩
 cases e
 exact⟨_,h2,(fun cs e=>by injection e with _ e;cases e),(fun cs e=>by injection e with _ e;cases e)⟩
theorem Txn.Vk(h:Txn w t m f n free pages k D)(p:Int):Txn (w.setCell ⟨t,2,none⟩ (.int .i64 p)) t m f n free p k D:=by
 obtain⟨h1,⟨u,h2,h3⟩,h4⟩:=h
 have hg:w.grownBy (w.setCell ⟨t,2,none⟩ (.int .i64 p)) (some t):=aQ (World.grownBy.refl w _) (.inl rfl) _
 have hne:t≠m:=fun e=>by obtain⟨es,c,hm,_⟩:=h4;subst e;unfold Blk at h2;rw[h2]at hm;cases hm
 refine⟨h1.keep hg (fun r e=> ?_),⟨u,h2.aW 2 _,h3.keep hg (fun r e=> ?_)⟩,h4.setCell (fun e=>hne e.symm) _⟩
 ·cases e
  exact⟨_,h2,(fun cs e=>by injection e with _ e;cases e),(fun cs e=>by injection e with _ e;cases e)⟩
 ·cases e
  exact⟨_,h2,fun cs e=>by injection e with _ e;cases e⟩
theorem Txn.turn(h:Txn w t m f n free pages k D){k':Nat}{D':DataW Value}(hg:w.grownBy w' (some m))(hm:w'.ownsMap Tryz.prog 3 I4 m k' D'):Txn w' t m f n free pages k' D':=by
 obtain⟨h1,⟨u,h2,h3⟩,h4⟩:=h
 obtain⟨es,c,hm0,_⟩:=h4
 refine⟨h1.keep hg (fun r e=> ?_),⟨u,h2.keep hg (fun r e=> ?_),h3.keep hg (fun r e=> ?_)⟩,hm⟩
 all_goals cases e
 ·exact⟨_,hm0,(fun cs e=>by cases e),(fun cs e=>by cases e)⟩
 ·exact⟨_,hm0,fun cs e=>by cases e⟩
 ·exact⟨_,hm0,fun cs e=>by cases e⟩
theorem Touch.aW{w:World}{t m i:Nat}(v:Value):Touch t m w (w.setCell ⟨t,i,none⟩ v):=Touch.bW (aQ (World.grownBy.refl w (some t)) (.inl rfl) _) (.inl rfl)
theorem wfI{x:Int}(h: -9223372036854775808<=x/\x<=9223372036854775807):(Lit.int .i64 x).wf=true:=WalkArith.wf_i64 h
theorem Txn.store(h:Txn w t m f n free pages k D)(hk:k<maxLen){id:Int}(hid:(Lit.int .i64 id).wf=true)(b:Bool)(q:Int)(s:ByteArray):
  ∃w',(Instr.mapUpdate 120 (.map (some m)) (.int .i64 id) (.agg #[.bool b, .int .u8 q, .string s])).run Tryz.prog w= .ok () w'/\Txn w' t m f n free pages (k+1) (D.put (.int .i64 id) (.held (content b q s)))/\w.grownBy w' (some m):=by
 obtain⟨w',h1,h2,h3⟩:=h.map.store qM Tryz.underlying120 hk (MR hid) (oH b q s)
 exact⟨w',h1,h.turn h3.grown h2,h3.grown⟩
end
def eY(free:List Run)(pages room:Int):Option (Int × List Run × Int):=
 match pY free with
 |some id=>some (id,Rp.minus free [(id,id)],pages)
 |none=>if room<=pages then none else some (pages,free,pages+1)
def iZ(o:Option (Int × List Run × Int))(t m f n:Nat)(free:List Run)(pages:Int)(k:Nat)(D:DataW Value)(w:World)(e:Ending)(w':World):Prop:=
 Touch t m w w'/\match o with
 |none=>e= .returned (.tuple #[.int .i64 0, .int .i64 2])/\Txn w' t m f n free pages k D
 |some (id,fr,p)=>e= .returned (.tuple #[.int .i64 id, .int .i64 0])/\Txn w' t m f n fr p (k+1) (D.put (.int .i64 id) (.held (content false 0 ⟨#[]⟩)))
theorem iZ.some_{o:Option (Int × List Run × Int)}{t m f n k:Nat}{free fr:List Run}{pages p id:Int}{D:DataW Value}{w w':World}(ho:o=some (id,fr,p))(h:Touch t m w w')(h':Txn w' t m f n fr p (k+1) (D.put (.int .i64 id) (.held (content false 0 ⟨#[]⟩)))):
  iZ o t m f n free pages k D w (.returned (.tuple #[.int .i64 id, .int .i64 0])) w':=by subst ho;exact⟨h,rfl,h'⟩
theorem iZ.none_{o:Option (Int × List Run × Int)}{t m f n k:Nat}{free:List Run}{pages:Int}{D:DataW Value}{w w':World}(ho:o=none)(h:Touch t m w w')(h':Txn w' t m f n free pages k D):
  iZ o t m f n free pages k D w (.returned (.tuple #[.int .i64 0, .int .i64 2])) w':=by subst ho;exact⟨h,rfl,h'⟩
theorem YM{l:List Run}{x:Int} :x∈evs l ↔ ∃r∈l,r.1<=x/\x<=r.2:=by
 unfold evs
 rw[List.mem_flatMap]
 constructor
 ·rintro⟨r,hr,hx⟩
  refine⟨r,hr, ?_⟩
  unfold tX cnt at hx
  obtain⟨i,hi,rfl⟩:=List.mem_map.1 hx
  rw[List.mem_range]at hi
  omega
 ·rintro⟨r,hr,h1,h2⟩
  refine⟨r,hr,List.mem_map.2 ⟨(x-r.1).toNat, ?_,by omega⟩⟩
  rw[List.mem_range];unfold cnt;omega
theorem QY{l:List Run}{x:Int}(h:pY l=some x):0<=x/\x<=4294967295:=by
 unfold pY at h
 have hx:=List.mem_of_head? h
 obtain⟨r,hr,h1,h2⟩:=YM.1 hx
 have:=sJ _ 0 (Int.le_refl _) (Rp.dw l).1 r hr
 omega
theorem I5(t m f n k:Nat)(free:List Run)(pages:Int)(D:DataW Value)(id:Int)(hid:pY free=some id)(hl:free.length<=80000)(hk:k<maxLen)(w:World)(h:Txn w t m f n free pages k D)(o:Option (Int × List Run × Int))(ho:o=some (id,Rp.minus free [(id,id)],pages)):
  Calls Tryz.prog 30 #[.pointer (some ⟨t,0,none⟩)] w (iZ o t m f n free pages k D w):=by
 have hin:=QY hid
 have hT:=h
 obtain⟨_,⟨v,h2,h3⟩,_⟩:=h
 obtain⟨A,c,rfl⟩:=h3.form
 have hlt:=h2.lt
 have hc:=h2.cell 1
 have hF:=ak (first_any A c free (by omega) w h3.rs)
 rw[hid]at hF
 have hRm:=fun W h=>ak (MN A c free id W h (by omega))
 have HO:=Lib.hid ho
 clear ho
 generalize Rp.minus free [(id,id)]=fr at*
 go_enter Tryz.func30,Tryz.ntmps30
 go_wp2_with fail
 refine hF.out.mono ?_
 rintro e w1 ⟨rfl,b1⟩
 have hT1:=hT.below b1
 have h21:=h2.below b1 hlt
 have h31:=h3.keep (fV b1 none) (fun r e=>by cases e)
 have hlt1:=h21.lt
 have hc1:=h21.cell 1
 have hc3:=h21.cell 3
 go_wp2_with fail
 refine(hRm w1 h31.rs).out.mono ?_
 intro e w2 he
 obtain⟨A2,c2,rfl,ho2,r2,b2⟩:=he.open_
 clear he hRm hF
 have ho0:Own w2 0 (.slice A2 fr.length c2) fr:=ho2.lower (Nat.zero_le _)
 have hT2:=(hT1.below b2).Pv ho0
 have h22:=h21.below b2 hlt1
 have hlt2:=h22.lt
 have afN:=h22.cell 1
 have hcf:=h22.frozen 1
 have h23:=h22.aW 1 (.slice A2 fr.length c2)
 have hlt3:=h23.lt
 have afO:=h23.cell 3
 obtain⟨w4,hrun,hT4,hg4⟩:=hT2.store hk (wfI (x:=id) (by omega)) false 0 ⟨#[]⟩
 have hTo:Touch t m w w4:=((Touch.of_below b1).trans ((Touch.of_below b2).trans (Touch.aW _))).trans (Touch.bW hg4 (.inr rfl))
 clear hT hT1 hT2 h2 h3 h21 h31 ho0 ho2 r2 b1 b2 hg4
 go_wp2
 go_ret2
 exact iZ.some_ HO.out hTo hT4
theorem I7(t m f n k:Nat)(free:List Run)(pages:Int)(D:DataW Value)(hid:pY free=none)(hl:free.length<=80000)(hk:k<maxLen)(hp:0<=pages/\pages<=1000000)(w:World)(h:Txn w t m f n free pages k D)(o:Option (Int × List Run × Int))(ho:o=if max (n:Int) 2<=pages then none else some (pages,free,pages+1)):
  Calls Tryz.prog 30 #[.pointer (some ⟨t,0,none⟩)] w (iZ o t m f n free pages k D w):=by
 have hT:=h
 obtain⟨hf,⟨v,h2,h3⟩,_⟩:=h
 obtain⟨A,c,rfl⟩:=h3.form
 have hlt:=h2.lt
 have hc:=h2.cell 1
 have hF:=ak (first_any A c free (by omega) w h3.rs)
 rw[hid]at hF
 have HO:=Lib.hid ho
 clear ho
 go_enter Tryz.func30,Tryz.ntmps30
 go_wp2_with fail
 refine hF.out.mono ?_
 rintro e w1 ⟨rfl,b1⟩
 have hT1:=hT.below b1
 have hf1:=hf.keep (fV b1 none) (fun r e=>by cases e)
 have h21:=h2.below b1 hlt
 have hlt1:=h21.lt
 have hc0:=h21.cell 0
 have hc2:=h21.cell 2
 have hc3:=h21.cell 3
 have hR:=fun W h=>IZ f n W h
 by_cases hfull:max (n:Int) 2<=pages
 ·have ho:o=none:=by rw[HO.out,if_pos hfull]
  clear HO
  go_wp2_with fail
  go_quiet ((go_at_call 60;refine Calls.quiet_of_same (hR _ hf1)))
  have bq:=below_drewN b1 nq
  generalize w1.drewN nq=W1 at*
  have hTq:=hT.below bq
  go_wp2
  go_ret2
  exact iZ.none_ ho (Touch.of_below bq) hTq
 ·have ho:o=some (pages,free,pages+1):=by rw[HO.out,if_neg hfull]
  clear HO
  go_wp2_with fail
  go_quiet ((go_at_call 60;refine Calls.quiet_of_same (hR _ hf1)))
  have bq:=below_drewN b1 nq
  generalize w1.drewN nq=W1 at*
  have hTq:=hT.below bq
  have h2q:=h2.below bq hlt
  have hcf:=h2q.frozen 2
  have ahB:=h2q.lt
  have ahC:=h2q.cell 2
  have hT2:=hTq.Vk (pages+1)
  have h22:=h2q.aW 2 (.int .i64 (pages+1))
  have hlt2:=h22.lt
  have afO:=h22.cell 3
  obtain⟨w4,hrun,hT4,hg4⟩:=hT2.store hk (wfI (x:=pages) (by omega)) false 0 ⟨#[]⟩
  have hTo:Touch t m w w4:=((Touch.of_below bq).trans (Touch.aW _)).trans (Touch.bW hg4 (.inr rfl))
  clear hT hTq hT1 hT2 h2 h3 h21 hg4
  go_wp2
  go_ret2
  exact iZ.some_ ho hTo hT4
theorem uQ(t m f n k:Nat)(free:List Run)(pages:Int)(D:DataW Value)(hl:free.length<=80000)(hk:k<maxLen)(hp:0<=pages/\pages<=1000000)(w:World)(h:Txn w t m f n free pages k D):
  Calls Tryz.prog 30 #[.pointer (some ⟨t,0,none⟩)] w (iZ (eY free pages (max (n:Int) 2)) t m f n free pages k D w):=by
 cases hid:pY free with
 |none=>exact I7 t m f n k free pages D hid hl hk hp w h _ (by unfold eY;rw[hid])
 |some id=>exact I5 t m f n k free pages D id hid hl hk w h _ (by unfold eY;rw[hid])
section
variable {w w':World}{t m f n k:Nat}{free:List Run}{pages:Int}{D:DataW Value}
theorem Txn.del(h:Txn w t m f n free pages k D){id:Int}(hid:(Lit.int .i64 id).wf=true)(ty:TypeId):
  ∃w',(Builtin.delete_ #[120,3] ty #[.map (some m), .int .i64 id]).run Tryz.prog w= .ok (.tuple #[]) w'/\Txn w' t m f n free pages k (D.del (.int .i64 id))/\w.grownBy w' (some m):=by
 obtain⟨w',h1,h2,h3⟩:=h.map.drop qM Tryz.underlying120 (MR hid) ty
 exact⟨w',h1,h.turn h3.grown h2,h3.grown⟩
end
def wo(free:List Run)(D:DataW Value)(id:Int):List Run:=if Maps.has D (.int .i64 id)then Rp.union free [(id,id)]else free
def Gz(t m f n:Nat)(fr:List Run)(pages:Int)(k:Nat)(D':DataW Value)(w:World)(e:Ending)(w':World):Prop:=
 e= .returned (.tuple #[])/\Touch t m w w'/\Txn w' t m f n fr pages k D'
theorem QZ(t m f n k:Nat)(free:List Run)(pages:Int)(D:DataW Value)(id:Int)(hid:(Lit.int .i64 id).wf=true)(hl:free.length<=80000)(hh:Maps.has D (.int .i64 id)=true)(w:World)(h:Txn w t m f n free pages k D):
  Calls Tryz.prog 264 #[.pointer (some ⟨t,0,none⟩), .int .i64 id] w (Gz t m f n (Rp.union free [(id,id)]) pages k (D.del (.int .i64 id)) w):=by
 have hF:=ak (qc t m f n k free pages D id hid w h)
 rw[hh]at hF
 have hT:=h
 obtain⟨_,⟨v,h2,h3⟩,_⟩:=h
 obtain⟨A,c,rfl⟩:=h3.form
 have hlt:=h2.lt
 have hRm:=fun W h=>ak (add_any A c free id W h (by omega))
 generalize Rp.union free [(id,id)]=fr at*
 go_enter Tryz.func264,Tryz.ntmps264
 go_wp2_with fail
 refine hF.out.mono ?_
 rintro e w1 ⟨rfl,b1⟩
 have hT1:=hT.below b1
 have h21:=h2.below b1 hlt
 have hlt1:=h21.lt
 have hc3:=h21.cell 3
 obtain⟨w2,hrun,hT2,hg2⟩:=hT1.del hid 0
 have h22:=h21.keep hg2 (fun r e=>by
  cases e
  obtain⟨es,cl,hm0,_⟩:=hT1.map
  exact⟨_,hm0,fun cs e=>by cases e⟩)
 have adh:=h3.keep (fV b1 none) (fun r e=>by cases e)
 have h32:=adh.keep hg2 (fun r e=>by
  cases e
  obtain⟨es,cl,hm0,_⟩:=hT1.map
  exact⟨_,hm0,fun cs e=>by cases e⟩)
 have hlt2:=h22.lt
 have hc1:=h22.cell 1
 go_wp2_with fail
 refine(hRm w2 h32.rs).out.mono ?_
 intro e w3 he
 obtain⟨A2,c2,rfl,ho2,r2,b2⟩:=he.open_
 clear he hRm hF
 have ho0:Own w3 0 (.slice A2 fr.length c2) fr:=ho2.lower (Nat.zero_le _)
 have hT3:=(hT2.below b2).Pv ho0
 have h23:=h22.below b2 hlt2
 have hlt3:=h23.lt
 have afN:=h23.cell 1
 have hcf:=h23.frozen 1
 have hTo:=((Touch.of_below (t:=t) (m:=m) b1).trans (Touch.bW hg2 (.inr rfl))).trans ((Touch.of_below b2).trans (Touch.aW (i:=1) (.slice A2 fr.length c2)))
 clear hT hT1 hT2 h2 h3 h21 adh h32 ho0 ho2 r2 b1 b2 hg2
 go_wp2
 go_end0
 exact⟨rfl,hTo,hT3⟩
theorem Vl(t m f n k:Nat)(free:List Run)(pages:Int)(D:DataW Value)(id:Int)(hid:(Lit.int .i64 id).wf=true)(hh:Maps.has D (.int .i64 id)=false)(w:World)(h:Txn w t m f n free pages k D):
  Calls Tryz.prog 264 #[.pointer (some ⟨t,0,none⟩), .int .i64 id] w (Gz t m f n free pages k D w):=by
 have hF:=ak (qc t m f n k free pages D id hid w h)
 rw[hh]at hF
 go_enter Tryz.func264,Tryz.ntmps264
 go_wp2_with fail
 refine hF.out.mono ?_
 rintro e w1 ⟨rfl,b1⟩
 have hT1:=h.below b1
 go_wp2
 go_end0
 exact⟨rfl,Touch.of_below b1,hT1⟩
def yM(D:DataW Value)(id:Int):DataW Value:=if Maps.has D (.int .i64 id)then D.del (.int .i64 id)else D
theorem Q5(t m f n k:Nat)(free:List Run)(pages:Int)(D:DataW Value)(id:Int)(hid:(Lit.int .i64 id).wf=true)(hl:free.length<=80000)(w:World)(h:Txn w t m f n free pages k D):
  Calls Tryz.prog 264 #[.pointer (some ⟨t,0,none⟩), .int .i64 id] w (Gz t m f n (wo free D id) pages k (yM D id) w):=by
 cases hh:Maps.has D (.int .i64 id)with
 |true=>rw[show wo free D id=Rp.union free [(id,id)]by unfold wo;rw[hh];rfl,show yM D id=D.del (.int .i64 id)by unfold yM;rw[hh];rfl];exact QZ t m f n k free pages D id hid hl hh w h
 |false=>rw[show wo free D id=free by unfold wo;rw[hh];rfl,show yM D id=D by unfold yM;rw[hh];rfl];exact Vl t m f n k free pages D id hid hh w h
def abg(E:Int)(t m f n:Nat)(free:List Run)(pages:Int)(k:Nat)(D':DataW Value)(w:World)(e:Ending)(w':World):Prop:=
 e= .returned (.int .i64 E)/\Touch t m w w'/\Txn w' t m f n free pages k D'
theorem Vm(t m f n k:Nat)(free:List Run)(pages:Int)(D:DataW Value)(id q:Int)(s:ByteArray)(hid:(Lit.int .i64 id).wf=true)(hk:k<maxLen)(hh:Maps.has D (.int .i64 id)=true)(hs:s.size<=240)(w:World)(h:Txn w t m f n free pages k D):
  Calls Tryz.prog 305 #[.pointer (some ⟨t,0,none⟩), .int .i64 id, .int .u8 q, .string s] w (abg 0 t m f n free pages (k+1) (D.put (.int .i64 id) (.held (content true q s))) w):=by
 have hF:=ak (qc t m f n k free pages D id hid w h)
 rw[hh]at hF
 have hT:=h
 obtain⟨_,⟨v,h2,h3⟩,_⟩:=h
 go_enter Tryz.func305,Tryz.ntmps305
 go_wp2_with fail
 refine hF.out.mono ?_
 rintro e w1 ⟨rfl,b1⟩
 have hT1:=hT.below b1
 have h21:=h2.below b1 h2.lt
 have hlt1:=h21.lt
 have hc3:=h21.cell 3
 obtain⟨w2,hrun,hT2,hg2⟩:=hT1.store hk hid true q s
 have hTo:=(Touch.of_below (t:=t) b1).trans (Touch.bW hg2 (.inr rfl))
 clear hT hT1 h2 h3 h21 hg2 b1
 go_wp2
 go_ret
 exact⟨rfl,hTo,hT2⟩
end Go.Proofs.YteppebbmnojapaaGreatDoor
namespace Go.Proofs.YteppebbmnojapaaGreatDoor
open Go.RowKit
structure Enc(α:Type) where
 enc:α->List Value
 size:Nat
 len:∀x,(enc x).length=size
 pos:0<size
 one:∀x,∀u∈enc x,u.oneCell'=true
section
variable {α:Type}{E:Enc α}{w w':World}{B:Nat}{A:Option Addr}{l:List α}
def Enc.cells(E:Enc α)(l:List α):List Value:=l.flatMap E.enc
theorem Enc.dR(E:Enc α)(l:List α):(E.cells l).length=l.length*E.size:=by
 induction l with
 |nil=>simp[Enc.cells]
 |cons r l ih=>unfold Enc.cells at *;rw[List.flatMap_cons,List.length_append,ih,List.length_cons,E.len,Nat.succ_mul];omega
theorem Enc.dS(E:Enc α)(a b:List α):E.cells (a++b)=E.cells a++E.cells b:=by unfold Enc.cells;rw[List.flatMap_append]
theorem Enc.cells_one(E:Enc α)(x:α):E.cells [x]=E.enc x:=by simp[Enc.cells]
theorem Enc.qg(E:Enc α)(l:List α)(x:α):E.cells (l++ [x])=E.cells l++E.enc x:=by rw[E.dS,E.cells_one]
theorem Enc.dB(E:Enc α)(x:α)(l:List α):E.cells (x::l)=E.enc x++E.cells l:=by unfold Enc.cells;rw[List.flatMap_cons]
theorem Enc.cells_at(E:Enc α)(l:List α)(k:Nat)(hk:k<l.length)(j:Nat)(hj:j<E.size):(E.cells l)[k*E.size+j]? =(E.enc l[k])[j]? :=by
 induction l generalizing k with
 |nil=>simp at hk
 |cons r l ih=>
  rw[E.dB]
  cases k with
  |zero=>rw[Nat.zero_mul,Nat.zero_add,List.getElem?_append_left (by rw[E.len];exact hj)];rfl
  |succ k=>
   have:=ih k (by simpa using hk)
   rw[List.getElem?_append_right (by rw[E.len,Nat.succ_mul];omega),E.len,Nat.succ_mul,show k*E.size+E.size+j-E.size=k*E.size+j by omega,this]
   rfl
theorem Enc.jv(E:Enc α)(l:List α):∀u∈E.cells l,u.oneCell'=true:=by
 intro u hu
 unfold Enc.cells at hu
 obtain⟨r,_,hr⟩:=List.mem_flatMap.1 hu
 exact E.one r u hr
theorem Enc.uS(E:Enc α)(l:List α)(k:Nat):(E.cells l).drop (k*E.size)=E.cells (l.drop k):=by
 induction l generalizing k with
 |nil=>simp[Enc.cells]
 |cons r l ih=>
  cases k with
  |zero=>simp
  |succ k=>
   rw[E.dB,Nat.succ_mul,List.drop_append,E.len,List.drop_of_length_le (by rw[E.len];omega),List.nil_append,show k*E.size+E.size-E.size=k*E.size by omega,ih]
   rfl
theorem Enc.qh(E:Enc α)(l:List α)(k:Nat):(E.cells l).take (k*E.size)=E.cells (l.take k):=by
 induction l generalizing k with
 |nil=>simp[Enc.cells]
 |cons r l ih=>
  cases k with
  |zero=>simp[Enc.cells]
  |succ k=>
   rw[E.dB,Nat.succ_mul,List.take_append,E.len,List.take_of_length_le (by rw[E.len];omega),show k*E.size+E.size-E.size=k*E.size by omega,ih, <-E.dB]
   rfl
def LS(E:Enc α)(w:World)(B:Nat)(A:Option Addr)(l:List α):Prop:=Reads w B E.size A l.length (E.cells l)
theorem LS.at_(h:LS E w B A l){k:Nat}(hk:k<l.length):∃b off,A=some ⟨b,off,none⟩/\b<B/\∀j,j<E.size->w.cell? ⟨b,off+k*E.size+j,none⟩=(E.enc l[k])[j]? :=by
 obtain⟨ad,rfl,hb,hc⟩:=h.2 (by omega)
 obtain⟨b,off,spot⟩:=ad
 have hs:spot=none:=by
  have h0:=E.cells_at l 0 (by omega) 0 E.pos
  rw[List.getElem?_eq_getElem (l:=E.enc (l[0]'(by omega))) (by rw[E.len];exact E.pos)]at h0
  have:=hc _ _ h0
  simpa[Addr.add]using World.cell?_spot this
 subst hs
 refine⟨b,off,rfl,hb,fun j hj=> ?_⟩
 have h0:=E.cells_at l k hk j hj
 rw[List.getElem?_eq_getElem (l:=E.enc l[k]) (by rw[E.len];exact hj)]at h0
 have:=hc _ _ h0
 rw[Addr.add_lit]at this
 rw[Nat.add_assoc,this, <-h0,E.cells_at l k hk j hj]
theorem LS.below(h:LS E w B A l)(hb:Below B w w'):LS E w' B A l:=Reads.below h hb
theorem LS.more{B':Nat}(h:LS E w B A l)(hB:B<=B'):LS E w B' A l:=Reads.more h hB
theorem LS.up(h:LS E w w.heap.size A l)(hb:Below w.heap.size w w'):LS E w' w'.heap.size A l:=(h.below hb).more hb.size
theorem LS.nil_:LS E w B A []:=⟨by simp[Enc.cells],fun h=>absurd h (by simp)⟩
theorem LS.cut(h:LS E w B A l){k cap:Nat}(hk:k<=l.length)(hc:l.length<=cap):LS E w B (if cap=k then A else A.map (·.add (k*E.size))) (l.drop k):=by
 have:=Reads.cut (size:=E.size) h hk hc
 unfold LS
 rw[List.length_drop, <-E.uS]
 exact this
theorem LS.mG(h:LS E w B A l)(k:Nat):LS E w B A (l.take k):=by
 unfold LS
 refine⟨E.dR _,fun hn=> ?_⟩
 obtain⟨ad,e,hb,hc⟩:=h.2 (by rw[List.length_take]at hn;omega)
 refine⟨ad,e,hb,fun j u hu=>hc j u ?_⟩
 rw[<-E.qh]at hu
 rw[List.getElem?_take]at hu
 split at hu
 ·exact hu
 ·cases hu
def LO(E:Enc α)(ty:TypeId)(w:World)(base:Nat)(v:Value)(l:List α):Prop:=w.ownsRow base ty E.size v l.length (E.cells l)
section
variable {ty:TypeId}{base:Nat}{v:Value}
theorem LO.nil_(w:World)(base:Nat):LO E ty w base (.slice none 0 0) []:=World.ownsRow_nil _ _ _ _
theorem LO.raw(h:LO E ty w base v l){n s:Nat}(hn:l.length=n)(hs:E.size=s):w.ownsRow base ty s v n (E.cells l):=by subst hn hs;exact h
theorem LO.form(h:LO E ty w base v l):∃A c,v= .slice A l.length c:=by
 rcases h.2 with⟨rfl,h0⟩ | ⟨g,cap,cur,rfl,_⟩
 ·exact⟨none,0,by rw[h0]⟩
 ·exact⟨_,_,rfl⟩
theorem LO.ls{n c:Nat}(h:LO E ty w base (.slice A n c) l):LS E w w.heap.size A l:=by
 obtain⟨A',c',e⟩:=h.form
 injection e with e1 e2 e3
 subst e1 e2
 exact Reads.MF h
theorem jw{e size n:Nat}{xs:List Value}{base':Nat}(h:w.ownsRow base e size v n xs)(hb:base'<=base):w.ownsRow base' e size v n xs:=by
 refine⟨h.1, ?_⟩
 rcases h.2 with h0 | ⟨g,cap,cur,h1,h2,h3⟩
 ·exact .inl h0
 ·exact .inr ⟨g,cap,cur,h1,Nat.le_trans hb h2,h3⟩
theorem own_below{e size n:Nat}{xs:List Value}(h:w.ownsRow base e size v n xs)(hb:Below w.heap.size w w'):w'.ownsRow base e size v n xs:=by
 refine⟨h.1, ?_⟩
 rcases h.2 with h0 | ⟨g,cap,cur,h1,h2,h3,h4⟩
 ·exact .inl h0
 ·refine .inr ⟨g,cap,cur,h1,h2, ?_,h4⟩
  rw[hb.block g ?_];exact h3
  rcases Nat.lt_or_ge g w.heap.size with hlt | hge
  ·exact hlt
  ·rw[Array.getElem?_eq_none hge]at h3;cases h3
theorem gZ{e size n:Nat}{xs:List Value}(h:w.ownsRow base e size v n xs):∃A c,v= .slice A n c:=by
 rcases h.2 with⟨rfl,h0⟩ | ⟨g,cap,cur,rfl,_⟩
 ·exact⟨none,0,by rw[h0]⟩
 ·exact⟨_,_,rfl⟩
theorem LO.below(h:LO E ty w base v l)(hb:Below w.heap.size w w'):LO E ty w' base v l:=own_below h hb
theorem LO.lower{base':Nat}(h:LO E ty w base v l)(hb:base'<=base):LO E ty w base' v l:=jw h hb
theorem LO.alloc(h:LO E ty w base v l)(o:Obj):LO E ty (w.alloc o) base v l:=World.ownsRow.alloc h o
theorem LO.snoc{x:α}{cs:List Value}{n s:Nat}(hn:l.length=n)(hs:E.size=s)(hc:cs=E.enc x)(h:w.ownsRow base ty s v (n+1) (E.cells l++cs)):LO E ty w base v (l++ [x]):=by
 subst hn hs hc
 unfold LO
 rw[List.length_append,E.qg]
 exact h
theorem LO.keep{row:Option Nat}(h:LO E ty w base v l)(hg:w.grownBy w' row)(hr:∀r,row=some r->∃o,w.heap[r]? =some o/\∀cs,o≠ .cells cs ty (0,0)):LO E ty w' base v l:=by
 rcases h with⟨h1,h2 | ⟨g,cap,cur,hv,hb,hh,r⟩⟩
 ·exact⟨h1, .inl h2⟩
 ·refine⟨h1, .inr ⟨g,cap,cur,hv,hb,(hg.block g (Array.getElem?_eq_some_iff.1 hh).1 ?_).trans hh,r⟩⟩
  intro e
  obtain⟨o,ho,hne⟩:=hr g e.symm
  rw[hh]at ho;cases ho
  exact hne cur rfl
def qH(E:Enc α)(ty:TypeId)(o:List α)(w:World)(e:Ending)(w':World):Prop:=∃v,e= .returned v/\LO E ty w' w.heap.size v o/\Below w.heap.size w w'
theorem qH.open_{e:Ending}(h:qH E ty l w e w'):∃A c,e= .returned (.slice A l.length c)/\LO E ty w' w.heap.size (.slice A l.length c) l/\LS E w' w'.heap.size A l/\Below w.heap.size w w':=by
 obtain⟨v,rfl,ho,hb⟩:=h
 obtain⟨A,c,rfl⟩:=ho.form
 exact⟨A,c,rfl,ho,ho.ls,hb⟩
end
end
theorem fG{w:World}{base e size c:Nat}{v:Value}{xs:List Value}(h:w.ownsRow base e size v c xs){r:Nat}(hr:v.ownBlock=some r):∃cs,w.heap[r]? =some (.cells cs e (0,0)):=by
 rcases h.2 with⟨rfl,_⟩ | ⟨g,cap,cur,rfl,_,h3,_⟩
 ·simp[Value.ownBlock]at hr
 ·simp[Value.ownBlock]at hr;subst hr;exact⟨_,h3⟩
theorem I8{w w':World}{base e size c:Nat}{v:Value}{xs:List Value}(h:w.ownsRow base e size v c xs){Vo e2 size2 c2:Nat}{v2:Value}{xs2:List Value}(h2:w.ownsRow Vo e2 size2 v2 c2 xs2)(hne:e≠e2)(hg:w.grownBy w' v2.ownBlock):w'.ownsRow base e size v c xs:=by
 refine⟨h.1, ?_⟩
 rcases h.2 with h0 | ⟨g,cap,cur,g1,g2,g3,g4⟩
 ·exact .inl h0
 ·refine .inr ⟨g,cap,cur,g1,g2, ?_,g4⟩
  rw[hg.block g (Array.getElem?_eq_some_iff.1 g3).1 ?_];exact g3
  intro hr
  obtain⟨cs,hcs⟩:=fG h2 hr.symm
  rw[g3]at hcs
  injection hcs with hcs;injection hcs with _ hcs;exact hne hcs
theorem LO.aW{w:World}{base g:Nat}{α:Type}{E:Enc α}{ty ty':TypeId}{cs:Array Value}{v:Value}{l:List α}{i:Nat}{u:Value}(h:LO E ty w base v l)(hB:Blk w g ty' cs)(hne:ty'≠ty):LO E ty (w.setCell ⟨g,i,none⟩ u) base v l:=
 h.keep (aQ (World.grownBy.refl w (some g)) (.inl rfl) u) fun r e=>by
  cases e;exact⟨_,hB,fun cs e=>by injection e with _ e;exact hne e⟩
end Go.Proofs.YteppebbmnojapaaGreatDoor
namespace Go.Proofs.YteppebbmnojapaaGreatDoor
open Go.RowKit Go.Shelf
abbrev Bs:=List UInt8
def str(s:Bs):Value:= .string ⟨s.toArray⟩
def MW:Enc (Int × Bs):=⟨fun x=> [.int .i64 x.1,str x.2],2,fun _=>rfl,by decide,fun x u hu=>by simp at hu;rcases hu with rfl | rfl<;>rfl⟩
theorem Vp:EI Tryz.prog 230 (.agg #[.int .i64 0, .string ⟨#[]⟩]) 2 24:=EI.mk (by kernel_rfl)
def Vq(v:Value):Option (DataW Value × List MemPlace):=
 match v with
 | .string _=>some (.held v, [])
 |_=>none
theorem GH(s:ByteArray):Vq (.string s)=some (.held (.string s), []):=rfl
theorem I9{v:Value}{z:DataW Value × List MemPlace}(h:Vq v=some z):∃s,v= .string s/\z=(.held v, []):=by
 unfold Vq at h
 split at h
 ·rename_i s
  exact⟨s,rfl,by cases h;rfl⟩
 ·cases h
theorem qN{x:Int}(hx:(Lit.int .i64 x).wf=true):keyOf Tryz.prog 3 (.int .i64 x)=some (.int .i64 x):=Maps.keyOf_int_mk Tryz.underlying3 hx
theorem jg:Maps.Keyed Tryz.prog 3:=Maps.int_keyed Tryz.underlying3
structure Dk where
 sure:List Bs
 now:Int->Option Bs
 pend:List (Int × Bs)
 left:Int
 down:Bool
 reads:Int
 writes:Int
def Px(D:DataW Value)(now:Int->Option Bs):Prop:=∀ (i:Int) (z:DataW Value),Maps.has D (.int .i64 i)=(now i).isSome/\D.atKey (.int .i64 i) z=match now i with
 |some s=> .held (str s)
 |none=>z
theorem Px.put{D:DataW Value}{now:Int->Option Bs}(h:Px D now)(hm:Maps.IsMap D)(i:Int)(s:Bs):Px (D.put (.int .i64 i) (.held (str s))) (fun j=>if j=i then some s else now j):=by
 intro j z
 by_cases e:j=i
 ·subst e
  rw[Maps.has_put_same hm (by trivial),Maps.atKey_put_same hm (by trivial)];simp
 ·have hne:(Lit.int .i64 j)≠ .int .i64 i:=by intro e2;injection e2 with _ e2;exact e e2
  rw[Maps.has_put_other hne,Maps.atKey_put_other hne,(h j z).1,(h j z).2];simp[e]
def dZ(s m:Nat)(pv:Value)(D:Dk):Array Value:= #[.slice (some ⟨s,0,none⟩) D.sure.length D.sure.length, .map (some m),pv, .int .i64 D.left, .bool D.down, .int .i64 D.reads, .int .i64 D.writes]
structure DAt(w:World)(B d k:Nat)(D:Dk)(s m:Nat)(pv:Value)(Dm:DataW Value):Prop where
 le:B<=d/\B<=s/\B<=m
 self:Blk w d 117 (dZ s m pv D)
 sure:Blk w s 9 (D.sure.map str).toArray
 map:w.ownsMap Tryz.prog 3 Vq m k Dm
 now:Px Dm D.now
 pend:LO MW 230 w B pv D.pend
def lT(w:World)(B d k:Nat)(D:Dk):Prop:=∃s m pv Dm,DAt w B d k D s m pv Dm
theorem DAt.keep{w w':World}{B d k:Nat}{D:Dk}{s m:Nat}{pv:Value}{Dm:DataW Value}(h:DAt w B d k D s m pv Dm)(hb:Below w.heap.size w w'):DAt w' B d k D s m pv Dm:=
 ⟨h.le,h.self.below hb h.self.lt,h.sure.below hb h.sure.lt,h.map.kept (fV hb none) (by simp),h.now,h.pend.below hb⟩
theorem lT.keep{w w':World}{B d k:Nat}{D:Dk}(h:lT w B d k D)(hb:Below w.heap.size w w'):lT w' B d k D:=by
 obtain⟨s,m,pv,Dm,h⟩:=h
 exact⟨s,m,pv,Dm,h.keep hb⟩
def Dk.at_(D:Dk)(i:Int):Int:=if D.down then 4 else if i<0\/(D.sure.length:Int)<=i then 40 else 0
theorem AP{w:World}{B d k:Nat}{D:Dk}(h:lT w B d k D)(i:Int):
  Calls Tryz.prog 210 #[.pointer (some ⟨d,0,none⟩), .int .i64 i] w fun e w'=>e= .returned (.int .i64 (D.at_ i))/\w'=w:=by
 obtain⟨s,m,pv,Dm,h⟩:=h
 have h0:=h.self.cell 0
 have h4:=h.self.cell 4
 simp only[dZ]at h0 h4
 unfold Dk.at_
 cases hd:D.down with
 |true=>
  rw[hd]at h4
  go_enter Tryz.func210,Tryz.ntmps210
  go_wp2
  go_ret
  exact⟨rfl,rfl⟩
 |false=>
  rw[hd]at h4
  rw[if_neg (by simp)]
  by_cases hi:i<0
  ·rw[if_pos (.inl hi)]
   have hq:decide (i<0)=true:=by simpa using hi
   go_enter Tryz.func210,Tryz.ntmps210
   go_wp2
   go_ret
   exact⟨rfl,rfl⟩
  ·have hq:decide (i<0)=false:=by simpa using hi
   by_cases hn:(D.sure.length:Int)<=i
   ·rw[if_pos (.inr hn)]
    have hq2:decide ((D.sure.length:Int)<=i)=true:=by simpa using hn
    generalize D.sure.length=n at*
    go_enter Tryz.func210,Tryz.ntmps210
    go_wp2
    go_ret
    exact⟨rfl,rfl⟩
   ·rw[if_neg (by omega)]
    have hq2:decide ((D.sure.length:Int)<=i)=false:=by simpa using hn
    generalize D.sure.length=n at*
    go_enter Tryz.func210,Tryz.ntmps210
    go_wp2
    go_ret
    exact⟨rfl,rfl⟩
theorem afP:Extern.find Tryz.f272=some (Extern.Atomic.update (Op.intArith .add) .i64 true):=rfl
theorem AQ(d j:Nat)(x:Int)(w:World)(hc:w.cell? ⟨d,j,none⟩=some (.int .i64 x))(hf:w.frozen? ⟨d,j,none⟩=false)(hx:0<=x/\x<4611686018427387904):
  Calls Tryz.prog 211 #[.pointer (some ⟨d,j,none⟩), .int .i64 1] w fun e w'=>∃v,e= .returned v/\w'=w.setCell ⟨d,j,none⟩ (.int .i64 (x+1)):=by
 have hw:IntKind.i64.wrap (x+1)=x+1:=IntWalk.i64_in _ (by omega)
 have hrun:=run_call_add (P:=Tryz.prog) (f:=272) Tryz.func272 (by kernel_rfl) (by kernel_rfl) (by kernel_rfl) .i64 afP (s:=IntKind.i64.wrap (x+1)) (y:=1) hc hf (by simp[Op.intArith,go_sem])
 rw[hw]at hrun
 go_enter Tryz.func211,Tryz.ntmps211
 go_wp2
 go_ret
 exact⟨_,rfl,rfl⟩
section
variable {w:World}{B d k:Nat}{D:Dk}{s m:Nat}{pv:Value}{Dm:DataW Value}
theorem DAt.mne(h:DAt w B d k D s m pv Dm){g:Nat}{ty:TypeId}{cs:Array Value}(hg:Blk w g ty cs):m≠g:=by
 intro e
 obtain⟨es,clock,hb, -⟩:=h.map
 subst e
 have:=hb.symm.trans hg
 cases this
theorem DAt.turn(h:DAt w B d k D s m pv Dm)(j:Nat)(u:Value)(D':Dk)(hD:(dZ s m pv D).setIfInBounds j u=dZ s m pv D')(hs:D'.sure=D.sure)(hn:D'.now=D.now)(hp:D'.pend=D.pend):
  DAt (w.setCell ⟨d,j,none⟩ u) B d k D' s m pv Dm where
 le:=h.le
 self:=by have:=h.self.aW j u;rwa [hD]at this
 sure:=by rw[hs];exact h.sure.far (h.sure.ne_ h.self (by decide)) u
 map:=h.map.kept (aQ (p:=⟨d,j,none⟩) (World.grownBy.refl w (some d)) (.inl rfl) u) (fun e=>h.mne h.self (Option.some.inj e))
 now:=by rw[hn];exact h.now
 pend:=by rw[hp];exact h.pend.aW h.self (by decide)
theorem iw(w:World)(d j:Nat)(u:Value):w.grownBy (w.setCell ⟨d,j,none⟩ u) (some d):=aQ (p:=⟨d,j,none⟩) (World.grownBy.refl w (some d)) (.inl rfl) u
end
def Dk.get(D:Dk)(i:Int):Bs:=match D.now i with
 |some s=>s
 |none=>D.sure.getD i.toNat []
theorem Py{D:Dk}{i:Int}(h:D.at_ i=0):D.down=false/\0<=i/\i<D.sure.length:=by
 unfold Dk.at_ at h
 split at h
 ·cases h
 ·split at h
  ·cases h
  ·rename_i h1 h2
   exact⟨by simpa using h1,by omega,by omega⟩
theorem YN{w:World}{B d k:Nat}{D:Dk}(h:lT w B d k D)(i:Int)(hi:D.at_ i=0)(hw:(Lit.int .i64 i).wf=true)(hr:0<=D.reads/\D.reads<4611686018427387904):
  Calls Tryz.prog 307 #[.pointer (some ⟨d,0,none⟩), .int .i64 i] w fun e w'=>e= .returned (.tuple #[str (D.get i), .int .i64 0])/\lT w' B d k { D with reads:=D.reads+1 } /\w.grownBy w' (some d)/\w'.cell? ⟨d,1,none⟩=w.cell? ⟨d,1,none⟩:=by
 obtain⟨s,m,pv,Dm,h⟩:=h
 obtain⟨hdn,hi0,hin⟩:=Py hi
 obtain⟨n,rfl⟩:=Int.eq_ofNat_of_zero_le hi0
 have hn:n<D.sure.length:=by omega
 have h5:=h.self.cell 5
 have f5:=h.self.frozen 5
 simp only[dZ]at h5
 have h1:=h.turn 5 (.int .i64 (D.reads+1)) { D with reads:=D.reads+1 } rfl rfl rfl rfl
 have hg:=iw w d 5 (.int .i64 (D.reads+1))
 have htk:=AQ d 5 D.reads w h5 f5 hr
 have g0:=h1.self.cell 0
 have g1:=h1.self.cell 1
 simp only[dZ]at g0 g1
 have hsz:(dZ s m pv D).size=7:=rfl
 obtain⟨v,ps,hlook,hv⟩:=h1.map.look_ok jg Tryz.underlying109 (Tryz.zeroValue9 (w.setCell ⟨d,5,none⟩ (.int .i64 (D.reads+1)))) (GH _) (qN hw)
 have GI:=h1.now n (.held (.string ⟨#[]⟩))
 have hsl:=h1.sure.cell n
 rw[show((D.sure.map str).toArray)[n]? =some (str D.sure[n])by simp[hn]]at hsl
 have hsn:s<(w.setCell ⟨d,5,none⟩ (.int .i64 (D.reads+1))).heap.size:=h1.sure.lt
 have hfin:lT (w.setCell ⟨d,5,none⟩ (.int .i64 (D.reads+1))) B d k { D with reads:=D.reads+1 } :=⟨s,m,pv,Dm,h1⟩
 have HF:=Lib.hid hfin
 have HG:=Lib.hid (And.intro hg (World.cell?_setCell_other w ⟨d,5,none⟩ ⟨d,1,none⟩ (.int .i64 (D.reads+1)) (by simp)))
 have hget:D.get n=match D.now n with
   |some t=>t
   |none=>D.sure.getD n []:=rfl
 rw[hget]
 have hv2:=I9 hv
 obtain⟨s',rfl,hz⟩:=hv2
 rw[GI.2]at hz
 rw[GI.1]at hlook
 have hat:=fun W (hW:W=w)=>(hW ▸ AP ⟨s,m,pv,Dm,h⟩ (n:Int):Calls Tryz.prog 210 #[.pointer (some ⟨d,0,none⟩), .int .i64 n] W fun e w'=>e= .returned (.int .i64 (D.at_ n))/\w'=W)
 have zM:=hat w rfl
 rw[hi]at zM
 rw[List.getD_eq_getElem?_getD,List.getElem?_eq_getElem hn,Option.getD_some]
 generalize D.sure[n]=sn at*
 cases hD:D.now n with
 |some t=>
  rw[hD]at hz hlook
  simp only[Option.isSome_some]at hlook
  have hs':Value.string s'=str t:=by
   have:=(Prod.mk.inj hz).1
   injection this with this
   exact this.symm
  rw[hs']at hlook
  unfold str at*
  simp only
  generalize D.sure.length=N at*
  clear hfin hg h h1 GI hv hz hs' hat hget
  go_enter Tryz.func307,Tryz.ntmps307
  go_wp2_with fail
  refine Calls.mono zM ?_
  rintro e w1 ⟨rfl,rfl⟩
  go_wp2_with fail
  refine Calls.mono htk ?_
  rintro e w2 ⟨v2,rfl,rfl⟩
  go_wp2
  go_ret2
  exact⟨rfl,HF.out,HG.out.1,HG.out.2⟩
 |none=>
  rw[hD]at hz hlook
  simp only[Option.isSome_none]at hlook
  have hs':s'=⟨#[]⟩:=by
   have:=(Prod.mk.inj hz).1
   injection this with this
   injection this with this
   exact this.symm
  rw[hs']at hlook
  unfold str at*
  simp only
  have hni:(n:Int)<D.sure.length:=hin
  generalize D.sure.length=N at*
  clear hfin hg h h1 GI hv hz hs' hat hget
  go_enter Tryz.func307,Tryz.ntmps307
  go_wp2_with fail
  refine Calls.mono zM ?_
  rintro e w1 ⟨rfl,rfl⟩
  go_wp2_with fail
  refine Calls.mono htk ?_
  rintro e w2 ⟨v2,rfl,rfl⟩
  go_wp2
  go_ret2
  exact⟨rfl,HF.out,HG.out.1,HG.out.2⟩
theorem Ja{w:World}{B d k:Nat}{D:Dk}(h:lT w B d k D)(i:Int)(hi:D.at_ i≠0):
  Calls Tryz.prog 307 #[.pointer (some ⟨d,0,none⟩), .int .i64 i] w fun e w'=>e= .returned (.tuple #[str [], .int .i64 (D.at_ i)])/\w'=w:=by
 have hat:=AP h i
 generalize D.at_ i=x at*
 have hx:(x != 0)=true:=by simpa using hi
 unfold str
 clear h
 go_enter Tryz.func307,Tryz.ntmps307
 go_wp2_with fail
 refine Calls.mono hat ?_
 rintro e w1 ⟨rfl,rfl⟩
 go_wp2
 go_ret2
 exact⟨rfl,rfl⟩
section
variable {w w2:World}{B d k:Nat}{D:Dk}{s m:Nat}{pv v':Value}{Dm:DataW Value}
theorem DAt.xM(h:DAt w B d k D s m pv Dm)(hg:w.grownBy w2 pv.ownBlock):Blk w2 d 117 (dZ s m pv D):=
 h.self.grown hg (fun e=>aB (h.pend.raw rfl rfl) h.self (by decide) e.symm)
theorem DAt.push(h:DAt w B d k D s m pv Dm)(hg:w.grownBy w2 pv.ownBlock)(i:Int)(t:Bs)(ho:w2.ownsRow B 230 2 v' (D.pend.length+1) (MW.cells D.pend++ [.int .i64 i,str t])):
  DAt (w2.setCell ⟨d,2,none⟩ v') B d k { D with pend:=D.pend++ [(i,t)] } s m v' Dm where
 le:=h.le
 self:=(h.xM hg).aW 2 v'
 sure:=(h.sure.grown hg (fun e=>aB (h.pend.raw rfl rfl) h.sure (by decide) e.symm)).far (h.sure.ne_ h.self (by decide)) v'
 map:=(h.map.kept hg (fun e=>by
   obtain⟨cs,hcs⟩:=fG (h.pend.raw rfl rfl) e.symm
   obtain⟨es,clock,hb, -⟩:=h.map
   have:=hb.symm.trans hcs
   cases this)).kept (aQ (p:=⟨d,2,none⟩) (World.grownBy.refl w2 (some d)) (.inl rfl) v') (fun e=>h.mne h.self (Option.some.inj e))
 now:=h.now
 pend:=(LO.snoc (E:=MW) (x:=(i,t)) rfl rfl rfl ho).aW (h.xM hg) (by decide)
theorem DAt.stored(h:DAt w B d k D s m pv Dm)(i:Int)(t:Bs)(hw:w2.ownsMap Tryz.prog 3 Vq m (k+1) (Dm.put (.int .i64 i) (.held (str t))))(hg:w.grownBy w2 (some m)):
  DAt w2 B d (k+1) { D with now:=fun j=>if j=i then some t else D.now j } s m pv (Dm.put (.int .i64 i) (.held (str t))) where
 le:=h.le
 self:=h.self.grown hg (fun e=>h.mne h.self (Option.some.inj e).symm)
 sure:=h.sure.grown hg (fun e=>h.mne h.sure (Option.some.inj e).symm)
 map:=hw
 now:=h.now.put (h.map.tidy jg).isMap i t
 pend:=h.pend.keep hg (fun r e=>by
  cases e
  obtain⟨es,clock,hb, -⟩:=h.map
  exact⟨_,hb,fun cs e=>by cases e⟩)
end
def Kept(w w':World):Prop:=∀ (g:Nat) (t:TypeId) (cs:Array Value),Blk w g t cs->t≠117->t≠230->Blk w' g t cs
theorem Kept.refl(w:World):Kept w w:=fun _ _ _ h _ _=>h
theorem Kept.trans{a b c:World}(h:Kept a b)(h2:Kept b c):Kept a c:=fun g t cs hb h1 h3=>h2 g t cs (h g t cs hb h1 h3) h1 h3
theorem Kept.aW{a w:World}(h:Kept a w){d j:Nat}{cs:Array Value}(hd:Blk w d 117 cs)(u:Value):Kept a (w.setCell ⟨d,j,none⟩ u):=fun g t cs' hb h1 h3=>by
 have h4:=h g t cs' hb h1 h3
 exact h4.far (p:=⟨d,j,none⟩) (h4.ne_ hd h1) u
theorem Kept.below{w w':World}(h:Below w.heap.size w w'):Kept w w':=fun _ _ _ hb _ _=>hb.below h hb.lt
theorem LO.kept{α:Type}{E:Enc α}{ty:TypeId}{w w':World}{base:Nat}{v:Value}{l:List α}(h:LO E ty w base v l)(hk:Kept w w')(h1:ty≠117)(h2:ty≠230):LO E ty w' base v l:=by
 rcases h with⟨h3,h4 | ⟨g,cap,cur,hv,hb,hh,r⟩⟩
 ·exact⟨h3, .inl h4⟩
 ·exact⟨h3, .inr ⟨g,cap,cur,hv,hb,hk g ty _ hh h1 h2,r⟩⟩
def kZ(m:Nat)(w w':World):Prop:=∀ (k:Nat) (o:Obj),w.heap[k]? =some o->o.isCells=false->k≠m->w'.heap[k]? =some o
theorem kZ.refl(m:Nat)(w:World):kZ m w w:=fun _ _ h _ _=>h
theorem kZ.trans{m:Nat}{a b c:World}(h:kZ m a b)(g:kZ m b c):kZ m a c:=fun k o hk h1 h2=>g k o (h k o hk h1 h2) h1 h2
theorem kZ.aW{m:Nat}{a w:World}(h:kZ m a w)(p:Addr)(u:Value):kZ m a (w.setCell p u):=fun k o hk h1 h2=>(KeepsOthers.setCell w p u).same k o (h k o hk h1 h2) h1
theorem kZ.grown{m:Nat}{w w':World}{row:Option Nat}(hg:w.grownBy w' row)(hr:∀r,row=some r->∃o,w.heap[r]? =some o/\o.isCells=true):kZ m w w':=fun k o hk h1 _=>
 (hg.block k (Array.getElem?_eq_some_iff.1 hk).1 (fun e=>by
  obtain⟨o2,h2,h3⟩:=hr k e.symm
  rw[hk]at h2
  cases h2
  rw[h1]at h3
  cases h3)).trans hk
theorem kZ.turn{m:Nat}{w w':World}(hg:w.grownBy w' (some m)):kZ m w w':=fun k _ hk _ h2=>(hg.block k (Array.getElem?_eq_some_iff.1 hk).1 (fun e=>h2 (Option.some.inj e))).trans hk
theorem kZ.below{m:Nat}{w w':World}(hb:Below w.heap.size w w'):kZ m w w':=fun k _ hk _ _=>(hb.block k (Array.getElem?_eq_some_iff.1 hk).1).trans hk
def AU(B d k k':Nat)(D D':Dk)(w w':World):Prop:=∃s m pv Dm pv' Dm',DAt w B d k D s m pv Dm/\DAt w' B d k' D' s m pv' Dm'/\kZ m w w'
def Dk.put(D:Dk)(i:Int)(t:Bs):Dk:= { D with writes:=D.writes+1,pend:=D.pend++ [(i,t)],now:=fun j=>if j=i then some t else D.now j }
def Dk.wrote(D:Dk)(i:Int)(t:Bs):Dk:=if D.left=0 then { D.put i t with down:=true,left:= -1 } else if 0<D.left then { D.put i t with left:=D.left-1 } else D.put i t
def Dk.qO(D:Dk):Int:=if D.left=0 then 4 else 0
theorem Q7{w:World}{B d k:Nat}{D:Dk}(h:lT w B d k D)(i:Int)(t:Bs)(hi:D.at_ i=0)(ht:t.length=256)(hk:k<maxLen)(hw:(Lit.int .i64 i).wf=true)(hr:0<=D.writes/\D.writes<4611686018427387904)(hl:D.left<=9223372036854775807)(hp:D.pend.length<=1000000000000)(hB:B<=w.heap.size):
  Calls Tryz.prog 140 #[.pointer (some ⟨d,0,none⟩), .int .i64 i,str t] w fun e w'=>e= .returned (.int .i64 D.qO)/\AU B d k (k+1) D (D.wrote i t) w w'/\Below B w w'/\Kept w w':=by
 have hat:=AP h i
 rw[hi]at hat
 obtain⟨s,m,pv,Dm,h⟩:=h
 have HH:=Lib.hid h
 have h6:=h.self.cell 6
 have f6:=h.self.frozen 6
 simp only[dZ]at h6
 have htk:=AQ d 6 D.writes w h6 f6 hr
 have h1:=h.turn 6 (.int .i64 (D.writes+1)) { D with writes:=D.writes+1 } rfl rfl rfl rfl
 have wu:Below B w (w.setCell ⟨d,6,none⟩ (.int .i64 (D.writes+1))):=below_of_grown (iw w d 6 _) hB h.le.1
 have hk1:Kept w (w.setCell ⟨d,6,none⟩ (.int .i64 (D.writes+1))):=(Kept.refl w).aW h.self _
 have ho1:kZ m w (w.setCell ⟨d,6,none⟩ (.int .i64 (D.writes+1))):=(kZ.refl m w).aW _ _
 generalize w.setCell ⟨d,6,none⟩ (.int .i64 (D.writes+1))=w1 at*
 obtain⟨A,c,rfl⟩:=h1.pend.form
 have g2:=h1.self.cell 2
 simp only[dZ]at g2
 have hown:=h1.pend.raw rfl (s:=2) rfl
 unfold str
 simp only at g2 hown
 have hB1:B<=w1.heap.size:=Nat.le_trans hB wu.size
 have hn1:D.pend.length+1<=maxLen:=by unfold maxLen;omega
 have hn2:(D.pend.length+1)*24<=140737488355328:=by omega
 have hle:=h.le.1
 have hlm:=h.le.2.2
 have MX:∀A' c' w2,w2.ownsRow B 230 2 (.slice A' (D.pend.length+1) c') (D.pend.length+1) (MW.cells D.pend++ [.int .i64 i, .string ⟨t.toArray⟩])->w1.grownBy w2 (Value.slice A D.pend.length c).ownBlock->Below B w1 w2->
   w2.cell? ⟨d,2,none⟩=some (.slice A D.pend.length c)/\w2.frozen? ⟨d,2,none⟩=false/\(w2.setCell ⟨d,2,none⟩ (.slice A' (D.pend.length+1) c')).cell? ⟨d,1,none⟩=some (.map (some m))/\
   ∃w4,(Instr.mapUpdate 109 (.map (some m)) (.int .i64 i) (.string ⟨t.toArray⟩)).run Tryz.prog (w2.setCell ⟨d,2,none⟩ (.slice A' (D.pend.length+1) c'))= .ok () w4/\
    DAt w4 B d (k+1) (D.put i t) s m (.slice A' (D.pend.length+1) c') (Dm.put (.int .i64 i) (.held (str t)))/\Below B w w4/\w4.cell? ⟨d,3,none⟩=some (.int .i64 D.left)/\w4.cell? ⟨d,4,none⟩=some (.bool D.down)/\w4.frozen? ⟨d,3,none⟩=false/\w4.frozen? ⟨d,4,none⟩=false/\Kept w w4/\Hid (kZ m w w4):=by
  intro A' c' w2 hown' hgrow hbel
  have hb2:=h1.xM hgrow
  have h3:=h1.push hgrow i t hown'
  have hbw3:Below B w (w2.setCell ⟨d,2,none⟩ (.slice A' (D.pend.length+1) c')):=(wu.trans hbel).setCell (by exact hle) _
  obtain⟨w4,hrun,hmap,hturn⟩:=h3.map.store jg Tryz.underlying109 hk (qN hw) (GH ⟨t.toArray⟩)
  have h4:=h3.stored i t hmap hturn.grown
  have kJ:Below B w w4:=hbw3.grown hturn.grown (Nat.le_trans hB hbw3.size) (fun r e=>by cases e;exact hlm)
  have hka:Kept w1 w2:=fun g t cs hb e1 e2=>hb.grown hgrow (fun e=>aB hown hb (Ne.symm e2) e.symm)
  have hkb:=(hk1.trans hka).aW (j:=2) hb2 (.slice A' (D.pend.length+1) c')
  have hkp:Kept w w4:=fun g t cs hb e1 e2=>(hkb g t cs hb e1 e2).grown hturn.grown (fun e=>h3.mne (hkb g t cs hb e1 e2) (Option.some.inj e).symm)
  exact⟨hb2.cell 2,hb2.frozen 2,h3.self.cell 1,w4,hrun,h4,kJ,h4.self.cell 3,h4.self.cell 4,h4.self.frozen 3,h4.self.frozen 4,hkp,Lib.hid (((ho1.trans (kZ.grown hgrow (fun r e=>by obtain⟨cs,hcs⟩:=fG hown e;exact⟨_,hcs,rfl⟩))).aW _ _).trans (kZ.turn hturn.grown))⟩
 by_cases h0:D.left=0
 ·have hwr:D.wrote i t= { D.put i t with down:=true,left:= -1 } :=by unfold Dk.wrote;rw[if_pos h0]
  have hwe:D.qO=4:=by unfold Dk.qO;rw[if_pos h0]
  have HW:=Lib.hid hwr
  have HE:=Lib.hid hwe
  have hq:(D.left==0)=true:=by simpa using h0
  clear hwr hwe h0
  go_enter Tryz.func140,Tryz.ntmps140
  go_wp2_with fail
  refine Calls.mono hat ?_
  rintro e w0 ⟨rfl,rfl⟩
  go_wp2_with fail
  refine Calls.mono htk ?_
  rintro e w0 ⟨v2,rfl,rfl⟩
  go_wp2_with (at_builtin;refine aU rfl (.tmp 25) (.tmp 29) 110 rfl Vp Tryz.underlying110 rfl (by decide) rfl hown rfl (by simp) rfl (by simp[Value.oneCell']) hn1 hn2 hB1 ?_;intro v' w2 hown' hgrow hbel _ _
               obtain⟨A',c',rfl⟩:=gZ hown'
               obtain⟨k2,m2,k31,w4,hrun,h4,kJ,k43,k44,m43,m44,hkp,hoM⟩:=MX A' c' w2 hown' hgrow hbel)
  go_ret
  exact⟨by rw[HE.out];rfl,⟨s,m,_,_,_,_,HH.out,by rw[HW.out];exact(h4.turn 4 (.bool true) { D.put i t with down:=true } rfl rfl rfl rfl).turn 3 (.int .i64 (-1)) _ rfl rfl rfl rfl,(hoM.out.aW _ _).aW _ _⟩,(kJ.setCell hle _).setCell hle _,(hkp.aW h4.self _).aW (h4.turn 4 (.bool true) { D.put i t with down:=true } rfl rfl rfl rfl).self _⟩
 have hwe:D.qO=0:=by unfold Dk.qO;rw[if_neg h0]
 have HE:=Lib.hid hwe
 have hq:(D.left==0)=false:=by simpa using h0
 clear hwe
 by_cases hp0:0<D.left
 ·have hwr:D.wrote i t= { D.put i t with left:=D.left-1 } :=by unfold Dk.wrote;rw[if_neg h0,if_pos hp0]
  have HW:=Lib.hid hwr
  have hq2:decide (0<D.left)=true:=by simpa using hp0
  clear hwr
  go_enter Tryz.func140,Tryz.ntmps140
  go_wp2_with fail
  refine Calls.mono hat ?_
  rintro e w0 ⟨rfl,rfl⟩
  go_wp2_with fail
  refine Calls.mono htk ?_
  rintro e w0 ⟨v2,rfl,rfl⟩
  go_wp2_with (at_builtin;refine aU rfl (.tmp 25) (.tmp 29) 110 rfl Vp Tryz.underlying110 rfl (by decide) rfl hown rfl (by simp) rfl (by simp[Value.oneCell']) hn1 hn2 hB1 ?_;intro v' w2 hown' hgrow hbel _ _
               obtain⟨A',c',rfl⟩:=gZ hown'
               obtain⟨k2,m2,k31,w4,hrun,h4,kJ,k43,k44,m43,m44,hkp,hoM⟩:=MX A' c' w2 hown' hgrow hbel)
  go_ret
  exact⟨by rw[HE.out];rfl,⟨s,m,_,_,_,_,HH.out,by rw[HW.out];exact h4.turn 3 (.int .i64 (D.left-1)) _ rfl rfl rfl rfl,hoM.out.aW _ _⟩,kJ.setCell hle _,hkp.aW h4.self _⟩
 ·have hwr:D.wrote i t=D.put i t:=by unfold Dk.wrote;rw[if_neg h0,if_neg hp0]
  have HW:=Lib.hid hwr
  have hq2:decide (0<D.left)=false:=by simpa using hp0
  clear hwr
  go_enter Tryz.func140,Tryz.ntmps140
  go_wp2_with fail
  refine Calls.mono hat ?_
  rintro e w0 ⟨rfl,rfl⟩
  go_wp2_with fail
  refine Calls.mono htk ?_
  rintro e w0 ⟨v2,rfl,rfl⟩
  go_wp2_with (at_builtin;refine aU rfl (.tmp 25) (.tmp 29) 110 rfl Vp Tryz.underlying110 rfl (by decide) rfl hown rfl (by simp) rfl (by simp[Value.oneCell']) hn1 hn2 hB1 ?_;intro v' w2 hown' hgrow hbel _ _
               obtain⟨A',c',rfl⟩:=gZ hown'
               obtain⟨k2,m2,k31,w4,hrun,h4,kJ,k43,k44,m43,m44,hkp,hoM⟩:=MX A' c' w2 hown' hgrow hbel)
  go_ret
  exact⟨by rw[HE.out];rfl,⟨s,m,_,_,_,_,HH.out,by rw[HW.out];exact h4,hoM.out⟩,kJ,hkp⟩
theorem Q8{w:World}{B d k:Nat}{D:Dk}(h:lT w B d k D)(i:Int)(t:Bs)(hi:D.at_ i≠0):
  Calls Tryz.prog 140 #[.pointer (some ⟨d,0,none⟩), .int .i64 i,str t] w fun e w'=>e= .returned (.int .i64 (D.at_ i))/\w'=w:=by
 have hat:=AP h i
 generalize D.at_ i=x at*
 have hx:(x != 0)=true:=by simpa using hi
 unfold str
 clear h
 go_enter Tryz.func140,Tryz.ntmps140
 go_wp2_with fail
 refine Calls.mono hat ?_
 rintro e w1 ⟨rfl,rfl⟩
 go_wp2
 go_ret
 exact⟨rfl,rfl⟩
end Go.Proofs.YteppebbmnojapaaGreatDoor
namespace Cc
def hv:List Nat:= [0,498536548,997073096,651767980,1994146192,1802195444,1303535960,1342533948,3988292384,4027552580,3604390888,3412177804,2607071920,2262029012,2685067896,3183342108]
theorem aax(i:Nat):hv.getD i 0<4294967296:=by
 by_cases h:i<16
 ·have h2:∀j:Fin 16,hv.getD j 0<4294967296:=by decide
  exact h2 ⟨i,h⟩
 ·have:hv.length<=i:=by show 16<=i;omega
  rw[List.getD,List.getElem?_eq_none this];decide
def half(n:Nat):Nat:=n / 16 ^^^ hv.getD (n % 16) 0
theorem zY{n:Nat}(h:n<4294967296):half n<4294967296:=Nat.xor_lt_two_pow (n:=32) (by omega) (aax _)
def step(c b:Nat):Nat:=half (half (c ^^^ b))
theorem Vr{c b:Nat}(hc:c<4294967296)(hb:b<256):c ^^^ b<4294967296:=Nat.xor_lt_two_pow (n:=32) hc (by omega)
theorem YO{c b:Nat}(hc:c<4294967296)(hb:b<256):step c b<4294967296:=zY (zY (Vr hc hb))
def run(c:Nat)(l:List UInt8):Nat:=l.foldl (fun c b=>step c b.toNat) c
theorem MZ(l:List UInt8):∀ {c:Nat},c<4294967296->run c l<4294967296:=by
 induction l with
 |nil=>intro c h;exact h
 |cons b l ih=>intro c h;exact ih (YO h b.toNat_lt)
theorem Na(c:Nat)(a b:List UInt8):run c (a++b)=run (run c a) b:=by unfold run;rw[List.foldl_append]
def sum(l:List UInt8):Nat:=run 4294967295 l ^^^ 4294967295
theorem sum_lt(l:List UInt8):sum l<4294967296:=Nat.xor_lt_two_pow (n:=32) (MZ l (by decide)) (by decide)
end Cc
namespace Cp
def be:Nat->Nat->List UInt8
 |0,_=> []
 |k+1,n=>be k (n / 256)++ [UInt8.ofNat (n % 256)]
theorem au(k n:Nat):(be k n).length=k:=by
 induction k generalizing n with
 |zero=>rfl
 |succ k ih=>simp[be,ih]
def num(l:List UInt8):Nat:=l.foldl (fun n c=>n*256+c.toNat) 0
theorem Vt(l:List UInt8)(n:Nat):l.foldl (fun n c=>n*256+c.toNat) n=n*256 ^ l.length+num l:=by
 induction l generalizing n with
 |nil=>simp[num]
 |cons c l ih=>
  unfold num
  rw[List.foldl_cons,List.foldl_cons,ih,ih (0*256+c.toNat),List.length_cons,Nat.pow_succ]
  rw[Nat.add_mul,Nat.zero_mul,Nat.zero_add,Nat.add_assoc,Nat.mul_assoc,Nat.mul_comm 256]
theorem Nb(a b:List UInt8):num (a++b)=num a*256 ^ b.length+num b:=by
 show(a++b).foldl _ 0=_
 rw[List.foldl_append,Vt];rfl
theorem AV(a:List UInt8)(c:UInt8):num (a++ [c])=num a*256+c.toNat:=by
 rw[Nb];simp[num]
theorem Vu(l:List UInt8):num l<256 ^ l.length:=by
 have:∀ (k:Nat) (l:List UInt8),l.length=k->num l<256 ^ k:=by
  intro k
  induction k with
  |zero=>intro l h;have:l= []:=List.eq_nil_of_length_eq_zero h;subst this;simp[num]
  |succ k ih=>
   intro l h
   have hne:l≠ []:=by rintro rfl;simp at h
   rw[<-List.dropLast_concat_getLast hne,AV]
   have h1:=ih l.dropLast (by simp[h])
   have h2:=(l.getLast hne).toNat_lt
   rw[Nat.pow_succ]
   omega
 exact this _ l rfl
theorem abh(k n:Nat):num (be k n)=n % 256 ^ k:=by
 induction k generalizing n with
 |zero=>simp[be,num,Nat.mod_one]
 |succ k ih=>
  rw[be,AV,ih]
  have:(UInt8.ofNat (n % 256)).toNat=n % 256:=by simp
  rw[this,Nat.pow_succ,Nat.mul_comm (256 ^ k) 256,Nat.mod_mul]
  omega
theorem eu{k n:Nat}(h:n<256 ^ k):num (be k n)=n:=by rw[abh,Nat.mod_eq_of_lt h]
theorem Jb(k n j:Nat)(h:j<k):(be k n)[j]? =some (UInt8.ofNat (n / 256 ^ (k-1-j) % 256)):=by
 induction k generalizing n j with
 |zero=>omega
 |succ k ih=>
  rw[be]
  by_cases hj:j<k
  ·rw[List.getElem?_append_left (by rw[au];exact hj),ih _ _ hj]
   have e:k+1-1-j=(k-1-j)+1:=by omega
   rw[e,Nat.pow_succ,Nat.mul_comm (256 ^ _),Nat.div_div_eq_div_mul]
  ·obtain rfl:j=k:=by omega
   rw[List.getElem?_append_right (by rw[au];omega),au]
   simp
theorem GK(k n j:Nat)(h:j<k):(be k n).take (j+1)=(be k n).take j++ [UInt8.ofNat (n / 256 ^ (k-1-j) % 256)]:=by
 rw[List.take_add_one,Jb k n j h];rfl
def fits(k:Nat)(n:Int):Bool:=decide (0<=n)&&decide (n<(256 ^ k:Nat))
def jl(k:Nat)(n:Int):List UInt8:=if fits k n then be k n.toNat else []
def uT(k:Nat)(n:Int):Int:=if fits k n then 0 else 1
structure Rd where
 rest:List UInt8
 err:Int
def Rd.fail(r:Rd)(e:Int):Rd:=if r.err=0 then { r with err:=e } else r
def Rd.bytes(r:Rd)(n:Int):List UInt8 × Rd:=
 let r1:=if n<0 then r.fail 1 else if(r.rest.length:Int)<n then r.fail 10 else r
 if r1.err=0 then(r1.rest.take n.toNat, { r1 with rest:=r1.rest.drop n.toNat })else([],r1)
def Rd.int(r:Rd)(k:Nat):Nat × Rd:=(num (r.bytes k).1,(r.bytes k).2)
abbrev Run:=Int × Int
def jQ(r:Run):Bool:=fits 4 r.1&&fits 4 r.2&&decide (r.1<=r.2)
def eU(r:Run):List UInt8:=be 4 r.1.toNat++be 4 r.2.toNat
def body(next:Int)(l:List Run):Option (List UInt8):=
 if fits 4 next&&decide (l.length<=29)&&l.all jQ then some (be 4 next.toNat++be 2 l.length++l.flatMap eU)else none
theorem lD(r:Run):(eU r).length=8:=by simp[eU,au]
theorem flat_length(l:List Run):(l.flatMap eU).length=8*l.length:=by
 induction l with
 |nil=>rfl
 |cons r l ih=>rw[List.flatMap_cons,List.length_append,ih,lD,List.length_cons];omega
theorem kK{next:Int}{l:List Run}{s:List UInt8}(h:body next l=some s):s.length=6+8*l.length:=by
 unfold body at h
 split at h
 ·injection h with h;subst h;simp only[List.length_append,au,flat_length]
 ·cases h
def runsOf:Nat->List UInt8->List Run
 |0,_=> []
 |k+1,s=>((num (s.take 4):Int),(num ((s.drop 4).take 4):Int))::runsOf k (s.drop 8)
def parse(s:List UInt8):Option (Int × List Run):=
 if s.length<6 then none
 else if 29<num ((s.drop 4).take 2)\/s.length≠6+8*num ((s.drop 4).take 2)then none
 else if body (num (s.take 4)) (runsOf (num ((s.drop 4).take 2)) (s.drop 6))=some s then some ((num (s.take 4):Int),runsOf (num ((s.drop 4).take 2)) (s.drop 6))
 else none
def Rd.two(r:Rd):Run × Rd:=(((r.int 4).1,((r.int 4).2.int 4).1),((r.int 4).2.int 4).2)
def bQ:Nat->Rd->List Run × Rd
 |0,r=>([],r)
 |k+1,r=>(r.two.1::(bQ k r.two.2).1,(bQ k r.two.2).2)
def prog(s:List UInt8):Option (Int × List Run):=
 let r0:Rd:=⟨s,0⟩
 let next:=(r0.int 4).1
 let n:=((r0.int 4).2.int 2).1
 let l:=(bQ (min n 29) ((r0.int 4).2.int 2).2).1
 if body next l=some s then some ((next:Int),l)else none
theorem wB{r:Rd}{k:Nat}(he:r.err=0)(hk:k<=r.rest.length):r.bytes k=(r.rest.take k,⟨r.rest.drop k,0⟩):=by
 have h1:¬ ((k:Int)<0):=by omega
 have h2:¬ ((r.rest.length:Int)<(k:Int)):=by omega
 simp only[Rd.bytes,if_neg h1,if_neg h2,he,if_true,Int.toNat_natCast]
theorem og{r:Rd}{k:Nat}(he:r.err=0)(hk:k<=r.rest.length):r.int k=(num (r.rest.take k),⟨r.rest.drop k,0⟩):=by
 unfold Rd.int;rw[wB he hk]
theorem lF(k:Nat)(r:Rd):(bQ k r).1.length=k:=by
 induction k generalizing r with
 |zero=>rfl
 |succ k ih=>simp[bQ,ih]
theorem Jc(k:Nat):∀ (s:List UInt8),8*k<=s.length->(bQ k ⟨s,0⟩).1=runsOf k s:=by
 induction k with
 |zero=>intro s _;rfl
 |succ k ih=>
  intro s h
  have e1:(Rd.mk s 0).int 4=(num (s.take 4),⟨s.drop 4,0⟩):=og rfl (by show 4<=s.length;omega)
  have e2:(Rd.mk (s.drop 4) 0).int 4=(num ((s.drop 4).take 4),⟨(s.drop 4).drop 4,0⟩):=og rfl (by show 4<=(s.drop 4).length;simp;omega)
  have e3:(Rd.mk s 0).two=(((num (s.take 4):Int),(num ((s.drop 4).take 4):Int)),⟨s.drop 8,0⟩):=by
   unfold Rd.two;rw[e1];simp only;rw[e2];simp
  rw[bQ,runsOf,e3]
  simp only
  rw[ih _ (by simp;omega)]
theorem head2{a b:Nat}{f s:List UInt8}(h:be 4 a++be 2 b++f=s):(s.drop 4).take 2=be 2 b:=by
 rw[<-h,List.append_assoc,List.drop_append_of_le_length (by rw[au];omega),List.drop_of_length_le (by rw[au];omega),List.nil_append,List.take_append_of_le_length (by rw[au];omega),List.take_of_length_le (by rw[au];omega)]
theorem Nc{next:Int}{l:List Run}{s:List UInt8}(h:body next l=some s):(s.drop 4).take 2=be 2 l.length:=by
 unfold body at h
 split at h
 ·injection h with h;exact head2 h
 ·cases h
theorem Pz(s:List UInt8):prog s=parse s:=by
 unfold prog parse
 by_cases h6:s.length<6
 ·rw[if_pos h6]
  simp only
  rw[if_neg]
  intro hb
  have:=kK hb
  omega
 ·rw[if_neg h6]
  have e1:(Rd.mk s 0).int 4=(num (s.take 4),⟨s.drop 4,0⟩):=og rfl (by show 4<=s.length;omega)
  have e2:(Rd.mk (s.drop 4) 0).int 2=(num ((s.drop 4).take 2),⟨s.drop 6,0⟩):=by
   have:=og (r:=Rd.mk (s.drop 4) 0) (k:=2) rfl (by show 2<=(s.drop 4).length;simp;omega)
   simpa using this
  simp only[e1,e2]
  by_cases hbad:29<num ((s.drop 4).take 2)\/s.length≠6+8*num ((s.drop 4).take 2)
  ·rw[if_pos hbad,if_neg]
   intro hb
   have hl:=kK hb
   rw[lF]at hl
   have hn:num ((s.drop 4).take 2)=min (num ((s.drop 4).take 2)) 29:=by
    have h2:=Nc hb
    rw[lF]at h2
    have h3:min (num ((s.drop 4).take 2)) 29<256 ^ 2:=by have:min (num ((s.drop 4).take 2)) 29<=29:=Nat.min_le_right _ _;omega
    exact(congrArg num h2).trans (eu h3)
   rcases hbad with h | h<;>omega
  ·rw[if_neg hbad]
   have hk:num ((s.drop 4).take 2)<=29/\s.length=6+8*num ((s.drop 4).take 2):=by omega
   rw[Nat.min_eq_left hk.1,Jc _ _ (by simp;omega)]
theorem Jd(l:List Run)(h:l.all jQ=true):runsOf l.length (l.flatMap eU)=l:=by
 induction l with
 |nil=>rfl
 |cons r l ih=>
  rw[List.all_cons,Bool.and_eq_true]at h
  obtain⟨hr,hl⟩:=h
  rw[List.length_cons,runsOf,List.flatMap_cons]
  unfold jQ fits at hr
  simp only[Bool.and_eq_true,decide_eq_true_eq]at hr
  have t1:(eU r++l.flatMap eU).take 4=be 4 r.1.toNat:=by
   unfold eU;rw[List.append_assoc,List.take_append_of_le_length (by rw[au];omega),List.take_of_length_le (by rw[au];omega)]
  have t2:((eU r++l.flatMap eU).drop 4).take 4=be 4 r.2.toNat:=by
   unfold eU
   rw[List.append_assoc,List.drop_append_of_le_length (by rw[au];omega),List.drop_of_length_le (by rw[au];omega),List.nil_append,List.take_append_of_le_length (by rw[au];omega),List.take_of_length_le (by rw[au];omega)]
  have t3:(eU r++l.flatMap eU).drop 8=l.flatMap eU:=by
   rw[List.drop_append_of_le_length (by rw[lD];omega),List.drop_of_length_le (by rw[lD];omega),List.nil_append]
  rw[t1,t2,t3,ih hl,eu (by omega),eu (by omega)]
  have e1:((r.1.toNat:Nat):Int)=r.1:=by omega
  have e2:((r.2.toNat:Nat):Int)=r.2:=by omega
  rw[e1,e2]
theorem Nh{next:Int}{l:List Run}{s:List UInt8}(h:body next l=some s):parse s=some (next,l):=by
 have hl:=kK h
 have h0:=h
 unfold body at h
 split at h
 ·rename_i hc
  rw[Bool.and_eq_true,Bool.and_eq_true,decide_eq_true_eq]at hc
  obtain⟨⟨h1,h2⟩,h3⟩:=hc
  unfold fits at h1
  simp only[Bool.and_eq_true,decide_eq_true_eq]at h1
  injection h with h
  have t1:s.take 4=be 4 next.toNat:=by
   rw[<-h,List.append_assoc,List.take_append_of_le_length (by rw[au];omega),List.take_of_length_le (by rw[au];omega)]
  have t2:(s.drop 4).take 2=be 2 l.length:=by
   rw[<-h,List.append_assoc,List.drop_append_of_le_length (by rw[au];omega),List.drop_of_length_le (by rw[au];omega),List.nil_append,List.take_append_of_le_length (by rw[au];omega),List.take_of_length_le (by rw[au];omega)]
  have t3:s.drop 6=l.flatMap eU:=by
   rw[<-h,List.drop_append_of_le_length (by rw[List.length_append,au,au];omega),List.drop_of_length_le (by rw[List.length_append,au,au];omega),List.nil_append]
  unfold parse
  rw[if_neg (by omega),t1,t2,t3,eu (by omega),eu (by omega),if_neg (by omega),Jd l h3]
  have e1:((next.toNat:Nat):Int)=next:=by omega
  rw[e1,if_pos h0]
 ·cases h
end Cp
namespace Go.Proofs.YteppebbmnojapaaGreatDoor
open Go.RowKit
theorem Q9(n:Int)(w:World):Calls Tryz.prog 155 #[.int .i64 n] w fun e w'=>e= .returned (.bool (n==1||n==2||n==4))/\w=w':=by
 go_enter Tryz.func155,Tryz.ntmps155
 go_wp2
 all_goals go_ret
 all_goals simp[*]
theorem iy(n:Int)(h:n=1\/n=2\/n=4)(w:World):Calls Tryz.prog 155 #[.int .i64 n] w fun e w'=>e= .returned (.bool true)/\w=w':=by
 refine(Q9 n w).mono fun e w' ⟨he,hw⟩=>⟨?_,hw⟩
 rw[he];rcases h with rfl | rfl | rfl<;>rfl
theorem uU:EI Tryz.prog 5 (.int .u8 0) 1 1:=EI.mk (by kernel_rfl)
theorem mJ(k n j:Nat)(x:Int)(hj:j<k)(hx:x=((n / 256 ^ (k-1-j) % 256:Nat):Int)):((Cp.be k n).take j).map Gv++ [Value.int .u8 x]=((Cp.be k n).take (j+1)).map Gv:=by
 rw[Cp.GK k n j hj,List.map_append,List.map_singleton,MG,hx,Nat.mod_mod]
theorem EM(n:Int)(w:World)(h0:0<=n)(h1:n<256):Calls Tryz.prog 79 #[.int .i64 1, .int .i64 n] w fun e w'=>e= .returned (.tuple #[.string ⟨(Cp.be 1 n.toNat).toArray⟩, .int .i64 0])/\Below w.heap.size w w':=by
 have h2:n / 256=0:=by omega
 go_enter Tryz.func79,Tryz.ntmps79
 go_wp2_with (go_at_call 155;refine(iy _ (by omega) _).mono ?_;rintro e w' ⟨rfl,rfl⟩)
 go_loopw [6,7] (fun v i wr=>∃j:Nat,j<=1/\i= .int .i64 (0-j:Int)/\wr.ownsRow w.heap.size 5 1 v j (((Cp.be 1 n.toNat).take j).map Gv)/\Below w.heap.size w wr) (fun _ i _=>(intOf i+1).toNat)
 case atStart=>exact⟨0,by omega,rfl,World.ownsRow_nil _ _ _ _,Below.refl _ _⟩
 case round=>
  obtain⟨j,hj,rfl,hown,hb⟩:=hrel
  rcases(show j=0\/j=1 by omega)with rfl | rfl
  ·go_wp2_with (at_builtin;refine aU rfl _ _ 213 rfl uU Tryz.underlying213 rfl (by decide) rfl hown rfl (by simp) rfl (by simp[Value.oneCell']) (by decide) (by decide) hb.size ?_;intro v' w1 hown' hgrow hbel _ _)
   go_roundw
   case rel=>exact⟨1,by omega,by go_num,by rw[<-mJ 1 n.toNat 0 (n) (by omega) (by simp;omega)];exact hown',hb.trans (hbel.mono (Nat.le_refl _))⟩
   case measure=>simp[intOf]
  ·rw[List.take_of_length_le (by rw[Cp.au];omega)]at hown
   have hst:=uJ (P:=Tryz.prog) Tryz.underlying213 Tryz.underlying5 Tryz.underlying9 hown
   clear hown
   go_wp2
   go_ret2
   exact⟨rfl,hb⟩
theorem Vw(n:Int)(w:World)(h:n<0\/256<=n):Calls Tryz.prog 79 #[.int .i64 1, .int .i64 n] w fun e w'=>e= .returned (.tuple #[.string ⟨#[]⟩, .int .i64 1])/\w=w':=by
 rcases h with h | h
 ·go_enter Tryz.func79,Tryz.ntmps79
  go_wp2_with (go_at_call 155;refine(iy _ (by omega) _).mono ?_;rintro e w' ⟨rfl,rfl⟩)
  go_ret2
  exact⟨rfl,rfl⟩
 ·have h2:(n / 256 != 0)=true:=by rw[bne_iff_ne];omega
  have h3:(n / 256==0)=false:=by rw[beq_eq_false_iff_ne];omega
  have h4:decide (n<0)=false:=by simp;omega
  go_enter Tryz.func79,Tryz.ntmps79
  go_wp2_with (go_at_call 155;refine(iy _ (by omega) _).mono ?_;rintro e w' ⟨rfl,rfl⟩)
  go_ret2
  exact⟨rfl,rfl⟩
theorem adi(n:Int)(w:World):Calls Tryz.prog 79 #[.int .i64 1, .int .i64 n] w fun e w'=>e= .returned (.tuple #[.string ⟨(Cp.jl 1 n).toArray⟩, .int .i64 (Cp.uT 1 n)])/\Below w.heap.size w w':=by
 by_cases h:0<=n/\n<256
 ·have hf:Cp.fits 1 n=true:=by unfold Cp.fits;simp;omega
  rw[Cp.jl,Cp.uT,hf]
  exact EM n w h.1 h.2
 ·have hf:Cp.fits 1 n=false:=by unfold Cp.fits;simp;omega
  rw[Cp.jl,Cp.uT,hf]
  exact(Vw n w (by omega)).mono fun e w' ⟨he,hw⟩=>⟨he,hw ▸ Below.refl _ _⟩
theorem EN(n:Int)(w:World)(h0:0<=n)(h1:n<65536):Calls Tryz.prog 79 #[.int .i64 2, .int .i64 n] w fun e w'=>e= .returned (.tuple #[.string ⟨(Cp.be 2 n.toNat).toArray⟩, .int .i64 0])/\Below w.heap.size w w':=by
 have h2:n / 65536=0:=by omega
 go_enter Tryz.func79,Tryz.ntmps79
 go_wp2_with (go_at_call 155;refine(iy _ (by omega) _).mono ?_;rintro e w' ⟨rfl,rfl⟩)
 go_loopw [6,7] (fun v i wr=>∃j:Nat,j<=2/\i= .int .i64 (1-j:Int)/\wr.ownsRow w.heap.size 5 1 v j (((Cp.be 2 n.toNat).take j).map Gv)/\Below w.heap.size w wr) (fun _ i _=>(intOf i+1).toNat)
 case atStart=>exact⟨0,by omega,rfl,World.ownsRow_nil _ _ _ _,Below.refl _ _⟩
 case round=>
  obtain⟨j,hj,rfl,hown,hb⟩:=hrel
  rcases(show j=0\/j=1\/j=2 by omega)with rfl | rfl | rfl
  ·go_wp2_with (at_builtin;refine aU rfl _ _ 213 rfl uU Tryz.underlying213 rfl (by decide) rfl hown rfl (by simp) rfl (by simp[Value.oneCell']) (by decide) (by decide) hb.size ?_;intro v' w1 hown' hgrow hbel _ _)
   go_roundw
   case rel=>exact⟨1,by omega,by go_num,by rw[<-mJ 2 n.toNat 0 (n / 256) (by omega) (by simp;omega)];exact hown',hb.trans (hbel.mono (Nat.le_refl _))⟩
   case measure=>simp[intOf]
  ·go_wp2_with (at_builtin;refine aU rfl _ _ 213 rfl uU Tryz.underlying213 rfl (by decide) rfl hown rfl (by simp) rfl (by simp[Value.oneCell']) (by decide) (by decide) hb.size ?_;intro v' w1 hown' hgrow hbel _ _)
   go_roundw
   case rel=>exact⟨2,by omega,by go_num,by rw[<-mJ 2 n.toNat 1 (n % 256) (by omega) (by simp;omega)];exact hown',hb.trans (hbel.mono (Nat.le_refl _))⟩
   case measure=>simp[intOf]
  ·rw[List.take_of_length_le (by rw[Cp.au];omega)]at hown
   have hst:=uJ (P:=Tryz.prog) Tryz.underlying213 Tryz.underlying5 Tryz.underlying9 hown
   clear hown
   go_wp2
   go_ret2
   exact⟨rfl,hb⟩
theorem Vx(n:Int)(w:World)(h:n<0\/65536<=n):Calls Tryz.prog 79 #[.int .i64 2, .int .i64 n] w fun e w'=>e= .returned (.tuple #[.string ⟨#[]⟩, .int .i64 1])/\w=w':=by
 rcases h with h | h
 ·go_enter Tryz.func79,Tryz.ntmps79
  go_wp2_with (go_at_call 155;refine(iy _ (by omega) _).mono ?_;rintro e w' ⟨rfl,rfl⟩)
  go_ret2
  exact⟨rfl,rfl⟩
 ·have h2:(n / 65536 != 0)=true:=by rw[bne_iff_ne];omega
  have h3:(n / 65536==0)=false:=by rw[beq_eq_false_iff_ne];omega
  have h4:decide (n<0)=false:=by simp;omega
  go_enter Tryz.func79,Tryz.ntmps79
  go_wp2_with (go_at_call 155;refine(iy _ (by omega) _).mono ?_;rintro e w' ⟨rfl,rfl⟩)
  go_ret2
  exact⟨rfl,rfl⟩
theorem Vy(n:Int)(w:World):Calls Tryz.prog 79 #[.int .i64 2, .int .i64 n] w fun e w'=>e= .returned (.tuple #[.string ⟨(Cp.jl 2 n).toArray⟩, .int .i64 (Cp.uT 2 n)])/\Below w.heap.size w w':=by
 by_cases h:0<=n/\n<65536
 ·have hf:Cp.fits 2 n=true:=by unfold Cp.fits;simp;omega
  rw[Cp.jl,Cp.uT,hf]
  exact EN n w h.1 h.2
 ·have hf:Cp.fits 2 n=false:=by unfold Cp.fits;simp;omega
  rw[Cp.jl,Cp.uT,hf]
  exact(Vx n w (by omega)).mono fun e w' ⟨he,hw⟩=>⟨he,hw ▸ Below.refl _ _⟩
theorem oJ(n:Int)(w:World)(h0:0<=n)(h1:n<4294967296):Calls Tryz.prog 79 #[.int .i64 4, .int .i64 n] w fun e w'=>e= .returned (.tuple #[.string ⟨(Cp.be 4 n.toNat).toArray⟩, .int .i64 0])/\Below w.heap.size w w':=by
 have h2:n / 4294967296=0:=by omega
 go_enter Tryz.func79,Tryz.ntmps79
 go_wp2_with (go_at_call 155;refine(iy _ (by omega) _).mono ?_;rintro e w' ⟨rfl,rfl⟩)
 go_loopw [6,7] (fun v i wr=>∃j:Nat,j<=4/\i= .int .i64 (3-j:Int)/\wr.ownsRow w.heap.size 5 1 v j (((Cp.be 4 n.toNat).take j).map Gv)/\Below w.heap.size w wr) (fun _ i _=>(intOf i+1).toNat)
 case atStart=>exact⟨0,by omega,rfl,World.ownsRow_nil _ _ _ _,Below.refl _ _⟩
 case round=>
  obtain⟨j,hj,rfl,hown,hb⟩:=hrel
  rcases(show j=0\/j=1\/j=2\/j=3\/j=4 by omega)with rfl | rfl | rfl | rfl | rfl
  ·go_wp2_with (at_builtin;refine aU rfl _ _ 213 rfl uU Tryz.underlying213 rfl (by decide) rfl hown rfl (by simp) rfl (by simp[Value.oneCell']) (by decide) (by decide) hb.size ?_;intro v' w1 hown' hgrow hbel _ _)
   go_roundw
   case rel=>exact⟨1,by omega,by go_num,by rw[<-mJ 4 n.toNat 0 (n / 16777216) (by omega) (by simp;omega)];exact hown',hb.trans (hbel.mono (Nat.le_refl _))⟩
   case measure=>simp[intOf]
  ·go_wp2_with (at_builtin;refine aU rfl _ _ 213 rfl uU Tryz.underlying213 rfl (by decide) rfl hown rfl (by simp) rfl (by simp[Value.oneCell']) (by decide) (by decide) hb.size ?_;intro v' w1 hown' hgrow hbel _ _)
   go_roundw
   case rel=>exact⟨2,by omega,by go_num,by rw[<-mJ 4 n.toNat 1 (n / 65536 % 256) (by omega) (by simp;omega)];exact hown',hb.trans (hbel.mono (Nat.le_refl _))⟩
   case measure=>simp[intOf]
  ·go_wp2_with (at_builtin;refine aU rfl _ _ 213 rfl uU Tryz.underlying213 rfl (by decide) rfl hown rfl (by simp) rfl (by simp[Value.oneCell']) (by decide) (by decide) hb.size ?_;intro v' w1 hown' hgrow hbel _ _)
   go_roundw
   case rel=>exact⟨3,by omega,by go_num,by rw[<-mJ 4 n.toNat 2 (n / 256 % 256) (by omega) (by simp;omega)];exact hown',hb.trans (hbel.mono (Nat.le_refl _))⟩
   case measure=>simp[intOf]
  ·go_wp2_with (at_builtin;refine aU rfl _ _ 213 rfl uU Tryz.underlying213 rfl (by decide) rfl hown rfl (by simp) rfl (by simp[Value.oneCell']) (by decide) (by decide) hb.size ?_;intro v' w1 hown' hgrow hbel _ _)
   go_roundw
   case rel=>exact⟨4,by omega,by go_num,by rw[<-mJ 4 n.toNat 3 (n % 256) (by omega) (by simp;omega)];exact hown',hb.trans (hbel.mono (Nat.le_refl _))⟩
   case measure=>simp[intOf]
  ·rw[List.take_of_length_le (by rw[Cp.au];omega)]at hown
   have hst:=uJ (P:=Tryz.prog) Tryz.underlying213 Tryz.underlying5 Tryz.underlying9 hown
   clear hown
   go_wp2
   go_ret2
   exact⟨rfl,hb⟩
theorem Vz(n:Int)(w:World)(h:n<0\/4294967296<=n):Calls Tryz.prog 79 #[.int .i64 4, .int .i64 n] w fun e w'=>e= .returned (.tuple #[.string ⟨#[]⟩, .int .i64 1])/\w=w':=by
 rcases h with h | h
 ·go_enter Tryz.func79,Tryz.ntmps79
  go_wp2_with (go_at_call 155;refine(iy _ (by omega) _).mono ?_;rintro e w' ⟨rfl,rfl⟩)
  go_ret2
  exact⟨rfl,rfl⟩
 ·have h2:(n / 4294967296 != 0)=true:=by rw[bne_iff_ne];omega
  have h3:(n / 4294967296==0)=false:=by rw[beq_eq_false_iff_ne];omega
  have h4:decide (n<0)=false:=by simp;omega
  go_enter Tryz.func79,Tryz.ntmps79
  go_wp2_with (go_at_call 155;refine(iy _ (by omega) _).mono ?_;rintro e w' ⟨rfl,rfl⟩)
  go_ret2
  exact⟨rfl,rfl⟩
theorem VA(n:Int)(w:World):Calls Tryz.prog 79 #[.int .i64 4, .int .i64 n] w fun e w'=>e= .returned (.tuple #[.string ⟨(Cp.jl 4 n).toArray⟩, .int .i64 (Cp.uT 4 n)])/\Below w.heap.size w w':=by
 by_cases h:0<=n/\n<4294967296
 ·have hf:Cp.fits 4 n=true:=by unfold Cp.fits;simp;omega
  rw[Cp.jl,Cp.uT,hf]
  exact oJ n w h.1 h.2
 ·have hf:Cp.fits 4 n=false:=by unfold Cp.fits;simp;omega
  rw[Cp.jl,Cp.uT,hf]
  exact(Vz n w (by omega)).mono fun e w' ⟨he,hw⟩=>⟨he,hw ▸ Below.refl _ _⟩
def aH(r:Cp.Rd):Array Value:= #[.string ⟨r.rest.toArray⟩, .int .i64 r.err]
theorem AX(g:Nat)(r:Cp.Rd)(x:Int)(w:World)(h:Blk w g 372 (aH r)):
  Calls Tryz.prog 279 #[.pointer (some ⟨g,0,none⟩), .int .i64 x] w fun e w'=>e= .returned (.tuple #[])/\Blk w' g 372 (aH (r.fail x))/\w.grownBy w' (some g):=by
 have h1:=h.cell 1
 have f1:=h.frozen 1
 simp only[aH]at h1
 by_cases hr:r.err=0
 ·rw[Cp.Rd.fail,if_pos hr]
  rw[hr]at h1
  have hb:=h.aW 1 (.int .i64 x)
  have hg:w.grownBy (w.setCell ⟨g,1,none⟩ (.int .i64 x)) (some g):=aQ (p:=⟨g,1,none⟩) (World.grownBy.refl w (some g)) (.inl rfl) _
  clear h hr
  go_enter Tryz.func279,Tryz.ntmps279
  go_wp2
  go_end0
  exact⟨rfl,hb,hg⟩
 ·rw[Cp.Rd.fail,if_neg hr]
  have hr':(r.err==0)=false:=by simpa using hr
  clear hr
  go_enter Tryz.func279,Tryz.ntmps279
  go_wp2
  go_end0
  exact⟨rfl,h,World.grownBy.refl _ _⟩
theorem mM(s:List UInt8)(w:World):Calls Tryz.prog 216 #[.string ⟨s.toArray⟩] w fun e w'=>e= .returned (.pointer (some ⟨w.heap.size,0,none⟩))/\w'=w.alloc (.cells (aH ⟨s,0⟩) 372):=by
 go_enter Tryz.func216,Tryz.ntmps216
 go_wp2
 go_ret
 exact⟨rfl,rfl⟩
theorem GN(l:List UInt8)(n:Nat):ByteArray.extract ⟨l.toArray⟩ 0 n=⟨(l.take n).toArray⟩:=by
 apply ByteArray.ext;simp
theorem extract_drop(l:List UInt8)(n:Nat):ByteArray.extract ⟨l.toArray⟩ n l.length=⟨(l.drop n).toArray⟩:=by
 apply ByteArray.ext;simp
 rw[List.take_of_length_le (by simp)]
theorem jR(g:Nat)(r:Cp.Rd)(n:Int)(w:World)(h:Blk w g 372 (aH r)):
  Calls Tryz.prog 217 #[.pointer (some ⟨g,0,none⟩), .int .i64 n] w fun e w'=>e= .returned (.string ⟨(r.bytes n).1.toArray⟩)/\Blk w' g 372 (aH (r.bytes n).2)/\w.grownBy w' (some g):=by
 have h0:=h.cell 0
 have h1:=h.cell 1
 have f1:=h.frozen 0
 simp only[aH]at h0 h1
 by_cases hn:n<0
 ·have hb:r.bytes n=(if(r.fail 1).err=0 then((r.fail 1).rest.take n.toNat, { r.fail 1 with rest:=(r.fail 1).rest.drop n.toNat })else([],r.fail 1)):=by simp only[Cp.Rd.bytes,if_pos hn]
  have he:(r.fail 1).err≠0:=by unfold Cp.Rd.fail;split<;>simp_all
  rw[if_neg he]at hb
  rw[hb]
  have he':((r.fail 1).err==0)=false:=by simpa using he
  clear hb he
  generalize hr:r.fail 1=r' at*
  have HR:=Lib.hid hr
  clear hr
  go_enter Tryz.func217,Tryz.ntmps217
  go_wp2_with (go_at_call 279;refine(AX g r 1 w h).mono ?_;rintro e w' ⟨rfl,hB,hg⟩;rw[HR.out]at hB;have g1:=hB.cell 1;simp only[aH]at g1)
  go_ret
  exact⟨rfl,hB,hg⟩
 ·by_cases hm:(r.rest.length:Int)<n
  ·have hb:r.bytes n=(if(r.fail 10).err=0 then((r.fail 10).rest.take n.toNat, { r.fail 10 with rest:=(r.fail 10).rest.drop n.toNat })else([],r.fail 10)):=by simp only[Cp.Rd.bytes,if_neg hn,if_pos hm]
   have he:(r.fail 10).err≠0:=by unfold Cp.Rd.fail;split<;>simp_all
   rw[if_neg he]at hb
   rw[hb]
   have he':((r.fail 10).err==0)=false:=by simpa using he
   clear hb he
   generalize hr:r.fail 10=r' at*
   have HR:=Lib.hid hr
   clear hr
   go_enter Tryz.func217,Tryz.ntmps217
   go_wp2_with (go_at_call 279;refine(AX g r 10 w h).mono ?_;rintro e w' ⟨rfl,hB,hg⟩;rw[HR.out]at hB;have g1:=hB.cell 1;simp only[aH]at g1)
   go_ret
   exact⟨rfl,hB,hg⟩
  ·obtain⟨k,rfl⟩:=Int.eq_ofNat_of_zero_le (show 0<=n by omega)
   have hk:k<=r.rest.length:=by omega
   by_cases he:r.err=0
   ·rw[Cp.wB he hk]
    have hb:Blk (w.setCell ⟨g,0,none⟩ (.string ⟨(r.rest.drop k).toArray⟩)) g 372 (aH ⟨r.rest.drop k,0⟩):=by
     have:=h.aW 0 (.string ⟨(r.rest.drop k).toArray⟩)
     simpa[aH,he]using this
    have hg:w.grownBy (w.setCell ⟨g,0,none⟩ (.string ⟨(r.rest.drop k).toArray⟩)) (some g):=aQ (p:=⟨g,0,none⟩) (World.grownBy.refl w (some g)) (.inl rfl) _
    rw[he]at h1
    have HB:=Lib.hid hb
    have HG:=Lib.hid hg
    clear hb hg h he
    go_enter Tryz.func217,Tryz.ntmps217
    go_wp2
    rw[extract_drop]
    go_ret
    exact⟨by rw[<-GN];rfl,HB.out,HG.out⟩
   ·have hb:r.bytes k=([],r):=by
     have e1:¬ ((k:Int)<0):=by omega
     simp only[Cp.Rd.bytes,if_neg e1,if_neg hm,if_neg he]
    rw[hb]
    have he':(r.err==0)=false:=by simpa using he
    clear hb he
    go_enter Tryz.func217,Tryz.ntmps217
    go_wp2
    go_ret
    exact⟨rfl,h,World.grownBy.refl _ _⟩
theorem sK(a:Nat)(ha:a<9223372036854775808):(BitVec.ofInt 64 (a:Int)).toNat=a:=by
 rw[BitVec.ofInt_natCast,BitVec.toNat_ofNat];exact Nat.mod_eq_of_lt (by omega)
theorem Nj(a b:Nat)(ha:a<9223372036854775808)(hb:b<9223372036854775808):bits .or .i64 (a:Int) (b:Int)=((a ||| b:Nat):Int):=by
 have hx:a ||| b<2 ^ 63:=Nat.or_lt_two_pow (by omega) (by omega)
 show IntKind.i64.wrap ((BitVec.ofInt 64 (a:Int) ||| BitVec.ofInt 64 (b:Int)).toNat:Int)=_
 rw[BitVec.toNat_or,sK a ha,sK b hb,IntKind.wrap_i64]
 omega
theorem Je(a b:Nat)(ha:a<9223372036854775808)(hb:b<9223372036854775808):bits .xor .i64 (a:Int) (b:Int)=((a ^^^ b:Nat):Int):=by
 have hx:a ^^^ b<2 ^ 63:=Nat.xor_lt_two_pow (by omega) (by omega)
 show IntKind.i64.wrap ((BitVec.ofInt 64 (a:Int) ^^^ BitVec.ofInt 64 (b:Int)).toNat:Int)=_
 rw[BitVec.toNat_xor,sK a ha,sK b hb,IntKind.wrap_i64]
 omega
theorem Jf(a b:Nat)(hb:b<256):a*256 ||| b=a*256+b:=by
 have h:=Nat.shiftLeft_add_eq_or_of_lt (i:=8) (b:=b) hb a
 rw[Nat.shiftLeft_eq]at h
 exact h.symm
theorem YP(a b:Nat)(ha:a<=16777215)(hb:b<256):bits .or .i64 ((a:Int)*256) (b:Int)=((a*256+b:Nat):Int):=by
 have h:=Nj (a*256) b (by omega) (by omega)
 rw[Jf a b hb]at h
 rw[<-h,Int.natCast_mul]
 rfl
theorem D7(l:List UInt8)(j:Nat)(hj:j<l.length):Cp.num (l.take (j+1))=Cp.num (l.take j)*256+l[j].toNat:=by
 rw[List.take_succ_eq_append_getElem hj,Cp.AV]
theorem Rf(l:List UInt8)(j:Nat)(hj:j<l.length)(hl:l.length<=4):Cp.num (l.take j)<=16777215:=by
 have h:=Cp.Vu (l.take j)
 have h2:(l.take j).length<=3:=by simp;omega
 have h3:256 ^ (l.take j).length<=256 ^ 3:=Nat.pow_le_pow_right (by omega) h2
 omega
theorem GR(r:Cp.Rd)(k:Nat):(r.bytes k).1.length<=k:=by
 unfold Cp.Rd.bytes
 simp only
 generalize (if(k:Int)<0 then r.fail 1 else if(r.rest.length:Int)<k then r.fail 10 else r)=x
 split
 ·simp;omega
 ·simp
theorem fH(g:Nat)(r:Cp.Rd)(k:Nat)(w:World)(h:Blk w g 372 (aH r))(hk:k=1\/k=2\/k=4):
  Calls Tryz.prog 218 #[.pointer (some ⟨g,0,none⟩), .int .i64 k] w fun e w'=>e= .returned (.int .i64 (r.int k).1)/\Blk w' g 372 (aH (r.int k).2)/\w.grownBy w' (some g):=by
 unfold Cp.Rd.int
 have hlen:(r.bytes k).1.length<=4:=by have:=GR r k;omega
 have hb0:=jR g r k w h
 have ahD:=h.lt
 generalize hl:(r.bytes k).1=l at*
 generalize hr:(r.bytes k).2=r' at*
 have HL:=Lib.hid hl
 have HR:=Lib.hid hr
 have HB:=Lib.hid hb0
 clear hl hr hb0
 go_enter Tryz.func218,Tryz.ntmps218
 go_wp2_with (first | (go_at_call 155;refine(iy _ (by omega) _).mono ?_;rintro e w' ⟨rfl,rfl⟩) | (go_at_call 217;refine HB.out.mono ?_;rintro e w1 ⟨rfl,hB,hg⟩;obtain⟨cap,w2,hrun,hg2,hcells⟩:=vY (P:=Tryz.prog) w1 l Tryz.underlying9 Tryz.underlying213 Tryz.underlying5))
 go_loop [5,18] (fun n i=>∃j:Nat,j<=l.length/\i= .int .i64 j/\n= .int .i64 (Cp.num (l.take j))) (fun _ i=>l.length-(intOf i).toNat)
 case atStart=>exact⟨0,by omega,rfl,rfl⟩
 case round=>
  obtain⟨j,hj,rfl,rfl⟩:=hrel
  by_cases hlt:j<l.length
  ·have hc:=hcells j hlt
   have hnx:=D7 l j hlt
   have afQ:=Rf l j hlt hlen
   have hb8:=l[j].toNat_lt
   have HNX:=Lib.hid hnx
   clear hnx hcells
   go_wp2
   exact⟨⟨j+1,by omega,by go_num,by rw[YP _ _ afQ hb8,HNX.out]⟩,by simp[intOf];omega⟩
  ·clear hcells
   go_wp2
   go_ret
   refine⟨?_, ?_, ?_⟩
   ·rw[List.take_of_length_le (by omega)];rfl
   ·have:=hB.grown hg2 (by simp);exact this
   ·exact hg.trans (D5 hg2 _)
theorem sN{x y:List UInt8}{k:Nat}(h:x.length=k):Cp.Rd.int ⟨x++y,0⟩ k=(Cp.num x,⟨y,0⟩):=by
 rw[Cp.og rfl (by show k<=(x++y).length;rw[List.length_append];omega)]
 show(Cp.num ((x++y).take k),(⟨(x++y).drop k,0⟩:Cp.Rd))=_
 rw[List.take_left' h,List.drop_left' h]
theorem sO{x y:List UInt8}{k:Nat}(h:x.length=k):Cp.Rd.bytes ⟨x++y,0⟩ k=(x,⟨y,0⟩):=by
 rw[Cp.wB rfl (by show k<=(x++y).length;rw[List.length_append];omega)]
 show((x++y).take k,(⟨(x++y).drop k,0⟩:Cp.Rd))=_
 rw[List.take_left' h,List.drop_left' h]
def HT(w:World):Prop:=1<w.heap.size/\∀i,i<16->w.cell? ⟨1,i,none⟩=some (.int .u32 ((Cc.hv.getD i 0:Nat):Int))
theorem HT.below{w w':World}{B:Nat}(h:HT w)(hb:Below B w w')(hB:1<B):HT w':=by
 refine⟨by have:=hb.size;have:=h.1;omega,fun i hi=> ?_⟩
 rw[hb.cell (p:=⟨1,i,none⟩) hB];exact h.2 i hi
theorem aay(n:Nat)(h:n<4294967296):bits .and .u32 (n:Int) 15=((n % 16:Nat):Int):=by
 have e:=u32_and_nat n 15 h (by decide)
 rw[show(15:Nat)=2 ^ 4-1 from rfl,Nat.and_two_pow_sub_one_eq_mod]at e
 exact e
theorem EO(n:Nat)(h:n<4294967296):bits .xor .u32 ((n:Int) / 16) ((Cc.hv.getD (n % 16) 0:Nat):Int)=((Cc.half n:Nat):Int):=
 u32_xor_nat (n / 16) (Cc.hv.getD (n % 16) 0) (by omega) (Cc.aax _)
theorem VB(c b:Nat)(hc:c<4294967296)(hb:b<256)(w:World)(h:HT w):
  Calls Tryz.prog 271 #[.int .i64 c, .int .u8 b] w fun e w'=>e= .returned (.int .i64 (Cc.step c b))/\w'=w:=by
 have e1:IntKind.u32.wrap (c:Int)=c:=IntWalk.u32_in _ (by omega)
 have e2:IntKind.u32.wrap (b:Int)=b:=IntWalk.u32_in _ (by omega)
 have e3:=u32_xor_nat c b hc (by omega)
 have h1:=Cc.Vr hc hb
 have g1:=h.2 ((c ^^^ b) % 16) (by omega)
 have h2:=Cc.zY h1
 have g2:=h.2 (Cc.half (c ^^^ b) % 16) (by omega)
 have e4:=aay _ h1
 have e5:=aay _ h2
 have e6:=EO _ h1
 have e7:=EO _ h2
 have h3:=Cc.zY h2
 unfold Cc.step
 generalize Cc.half (Cc.half (c ^^^ b))=z at*
 generalize Cc.half (c ^^^ b)=y at*
 generalize c ^^^ b=x at*
 generalize Cc.hv.getD (x % 16) 0=p at*
 generalize Cc.hv.getD (y % 16) 0=q at*
 go_enter Tryz.func271,Tryz.ntmps271
 go_wp2
 go_ret
 exact⟨rfl,rfl⟩
theorem D8(c:Nat)(l:List UInt8)(j:Nat)(hj:j<l.length):Cc.run c (l.take (j+1))=Cc.step (Cc.run c (l.take j)) l[j].toNat:=by
 rw[List.take_succ_eq_append_getElem hj,Cc.Na];rfl
theorem VD(l:List UInt8):bits .xor .i64 ((Cc.run 4294967295 l:Nat):Int) 4294967295=((Cc.sum l:Nat):Int):=
 Je (Cc.run 4294967295 l) 4294967295 (by have:=Cc.MZ l (c:=4294967295) (by decide);omega) (by decide)
theorem sum_any(g c:Nat)(l:List UInt8)(hl:l.length<=1000000)(w:World)(hT:HT w)(hg:w.cell? ⟨g,0,none⟩=some (.string ⟨l.toArray⟩)):
  Calls Tryz.prog 209 #[.slice (some ⟨g,0,none⟩) 1 c] w fun e w'=>e= .returned (.int .i64 (Cc.sum l))/\w.grownBy w' none:=by
 have hsum:=VD l
 obtain⟨R,hR⟩:∃R,R=Cc.sum l:=⟨_,rfl⟩
 rw[<-hR]at hsum ⊢
 clear hR
 go_enter Tryz.func209,Tryz.ntmps209
 go_wp2
 go_loopw [3,10] (fun v i wr=>(i= .int .i64 0/\v= .int .i64 4294967295/\wr=w)\/(i= .int .i64 1/\v= .int .i64 (Cc.run 4294967295 l:Nat)/\w.grownBy wr none)) (fun _ i _=>1-(intOf i).toNat)
 case atStart=>exact .inl ⟨rfl,rfl,rfl⟩
 case round=>
  rcases hrel with⟨rfl,rfl,rfl⟩ | ⟨rfl,rfl,hgr⟩
  ·obtain⟨cap,w2,hrun,hg2,hcells⟩:=vY (P:=Tryz.prog) wr l Tryz.underlying9 Tryz.underlying213 Tryz.underlying5
   have hT2:HT w2:=hT.below (nV hg2 (Nat.le_refl _)) hT.1
   go_wp2
   go_loop [3,17] (fun v i=>∃j:Nat,j<=l.length/\i= .int .i64 j/\v= .int .i64 (Cc.run 4294967295 (l.take j):Nat)) (fun _ i=>l.length-(intOf i).toNat)
   case atStart=>exact⟨0,by omega,rfl,rfl⟩
   case round=>
    obtain⟨j,hj,rfl,rfl⟩:=hrel
    by_cases hlt:j<l.length
    ·have hc:=hcells j hlt
     have hnx:=Lib.hid (D8 4294967295 l j hlt)
     have hrl:=Cc.MZ (l.take j) (c:=4294967295) (by decide)
     have hb8:=l[j].toNat_lt
     have hst:=fun W h=>VB (Cc.run 4294967295 (l.take j)) l[j].toNat hrl hb8 W h
     clear hcells
     go_wp2_with (go_at_call 271;refine(hst _ hT2).mono ?_;rintro e w3 ⟨rfl,rfl⟩)
     exact⟨⟨j+1,by omega,by go_num,by rw[hnx.out]⟩,by simp[intOf];omega⟩
    ·obtain rfl:j=l.length:=by omega
     rw[List.take_of_length_le (Nat.le_refl _)]
     clear hcells
     go_wp2
     exact⟨.inr ⟨rfl,rfl,hg2⟩,by simp[intOf]⟩
  ·go_wp2
   go_ret
   exact⟨rfl,hgr⟩
end Go.Proofs.YteppebbmnojapaaGreatDoor
