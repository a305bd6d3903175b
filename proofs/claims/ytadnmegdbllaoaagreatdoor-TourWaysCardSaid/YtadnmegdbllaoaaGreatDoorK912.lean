/- Part of this proof. -/
import Derived.Deep.OwnRows
import Derived.Laws.CopyOwn
import Derived.Carry
import Derived.Maps.OwnSet
import Derived.Test.YtadnmegdbllaoaaGreatDoorK910
import Derived.Test.YtadnmegdbllaoaaGreatDoorK911
set_option maxRecDepth 100000
set_option maxHeartbeats 8000000
open ByteArray renaming empty->ajG
open Go.Calls renaming quiet_of_same->ahh
open Go.Lit renaming int->aj6
open Go.Maps renaming has->ahj
open Go.RowKit.Below renaming refl->aai
open Go.Value renaming string->ak2
open Go.World renaming grownBy_alloc->agW
open Go.World.grownBy renaming refl->agi
open List renaming mem_range->adq,replicate->ajR
open Nat renaming zero_le->ac4
namespace Go.Proofs.YtadnmegdbllaoaaGreatDoor
open Go.RowKit Go.Shelf Tryz
theorem aek:Builder.Extra prog Tryz.lays105_ren where
 sizeBuilder:=by kernel_rfl
 liesBuilder:=by kernel_rfl
 t5:=underlying5
 a5:=Tryz.isAgg5
 z5:=Tryz.sizeOf5
 v5:=Tryz.zeroValue5
 infoByte:=by kernel_rfl
 cellsByte:=by kernel_rfl
 sizeByte:=by kernel_rfl
 neB5:=by decide
theorem Uc(s:ByteArray)(c:Nat)(w:World)(hc:c<=9223372036854775807)(hlen:s.size*c<=140737488355328):
  Calls prog 59 #[.string s, .int .i64 c] w λe w'=>e= .returned (.string ⟨(Lib.repeatL s.data.toList c).toArray⟩)/\Below w.heap.size w w':=Any.strings_Repeat Tryz.lays105 aek s c w hc hlen
theorem ael(x y:Nat)(hx:x<18446744073709551616)(hy:y<18446744073709551616)(w:World):
  Calls prog 86 #[.int .u64 x, .int .u64 y] w λe w'=>e= .returned (.tuple #[.int .u64 ((x*y / 18446744073709551616:Nat):Int), .int .u64 ((x*y % 18446744073709551616:Nat):Int)])/\w'=w:=Any.bits_Mul Tryz.lays212 x y hx hy w
theorem aem(n:Nat)(hn:n<=16384)(w:World):Calls prog 86 #[.int .u64 1, .int .u64 n] w λe w'=>e= .returned (.tuple #[.int .u64 0, .int .u64 n])/\w'=w:=by
 refine(ael 1 n ak ak w).mono ?_;rintro e w' ⟨rfl,rfl⟩;refine⟨?_,rfl⟩;rw[Nat.one_mul,Nat.div_eq_of_lt ak,Nat.mod_eq_of_lt ak];rfl
def tN(z:ByteArray)(m n:Nat):Array Value:=(ajR m (ak2 z)++ajR (n-m) (ak2 ajG)).toArray
theorem aa2(z:ByteArray){m n:Nat}(h:m<=n):(tN z m n).size=n:=by simp[tN];omega
theorem aa3(z:ByteArray)(n:Nat):madeCells #[.string ajG] n=tN z 0 n:=by
 apply Array.toList_inj.1;rw[toList_madeCells_one];simp[tN]
theorem ahX(z:ByteArray){m n j:Nat}(hj:j<m):(tN z m n)[j]? =some (.string z):=by
 simp[tN,List.getElem?_append,hj]
theorem aa4(z:ByteArray){m d n:Nat} :(((tN z m n).toList.take m++ajR d (ak2 z)++(tN z m n).toList.drop (m+d)).toArray)=tN z (m+d) n:=by
 unfold tN
 congr 1
 rw[List.take_left' aH,List.drop_append,List.replicate_append_replicate];simp;omega
theorem Kt{w:World}{g:Nat}{t:TypeId}{cs cs':Array Value}(h:aO w g t cs):aO (w.setRow g cs') g t cs':=setRow_heap w g cs cs' t (0,0) h
theorem Addr.aen(b o j:Nat):(⟨b,o,none⟩:Addr).add j=⟨b,o+j,none⟩:=by unfold Addr.add;split<;>simp_all
theorem akk{w:World}{g:Nat}{z:ByteArray}{m n d:Nat}(h:aO w g 9 (tN z m n))(hmn:m+d<=n)(a:Addr)(sl sc dl dc:Nat)(hd:d=Nat.min sl dl)(axK:∀j,j<d->w.cell? (a.add j)=some (.string z))(ty:TypeId):
  (Builtin.copy_ #[110,110] ty #[.slice (some ⟨g,m,none⟩) dl dc, .slice (some a) sl sc]).run prog w= .ok (goInt d) (w.setRow g (tN z (m+d) n)):=by
 have:=run_copy_row (P:=prog) w 110 110 ty 9 g m dl dc a sl sc (tN z m n) 9 (ajR d (.string z)) underlying110 aV h (by simpa using hd)
  (λj v hj=>by
   obtain⟨h1,h2⟩:=List.getElem?_eq_some_iff.1 hj;simp at h1 h2
   rw[axK j h1,h2]) (by simp[aa2 z (by omega:m<=n)];exact hmn) (λv hv=>by rw[List.eq_of_mem_replicate hv];rfl)
 rw[List.length_replicate,aa4 z]at this;exact this
theorem Xw(g c:Nat)(z:ByteArray)(n:Nat)(hn:n<=16384)(w:World)(hB:aO w g 9 #[.string z]):
  Calls prog 60 #[.slice (some ⟨g,0,none⟩) 1 c, .int .i64 n] w λe w'=>e= .returned (.slice (some ⟨w.heap.size,0,none⟩) n n)/\aO w' w.heap.size 9 (tN z n n)/\Below w.heap.size w w':=by
 have hlt:=hB.lt;have hmk:=λW=>run_make_row' (P:=prog) 110 9 (.string ajG) 16 underlying110 aV rfl .i64 .i64 n ak ak W;have bD:aO (w.alloc (.cells (tN z 0 n) 9)) w.heap.size 9 (tN z 0 n):=aO.new w _ _;obtain⟨d,hd⟩:=aJ (Nat.min 1 n)
 have hd1:d<=1/\d<=n/\(0<n->0<d):=by
  have e:d=if 1<=n then 1 else n:=by rw[hd];rfl
  split at e<;>omega
 have hcp:=λty=>akk (d:=d) bD ak ⟨g,0,none⟩ 1 c n n hd (λj hj=>by
  have VE:j=0:=by omega
  subst VE
  exact(hB.alloc (.cells (tN z 0 n) 9)).cell 0) ty
 have qj:=Kt (cs':=tN z (0+d) n) bD;have HBE:Below w.heap.size w ((w.alloc (.cells (tN z 0 n) 9)).setRow w.heap.size (tN z (0+d) n)):=below_setRow ((aai _ w).alloc aK _) aK _;rw[Nat.zero_add]at hcp qj HBE;rw[<-aa3]at hcp qj HBE;generalize hW:(w.alloc (.cells (madeCells #[.string ajG] n) 9)).setRow w.heap.size (tN z d n)=W1 at*;clear bD hW;have hM:=λW=>aem n hn W;go_enter func60,ntmps60
 go_wp2_with (go_at_call 86;refine(hM _).mono ?_;rintro e w' ⟨rfl,hw⟩;replace hw:=hw.symm;subst hw)
 go_loopw [8] (λi wr=>∃m:Nat,m<=n/\i= .int .i64 m/\(0<n->0<m)/\aO wr w.heap.size 9 (tN z m n)/\Below w.heap.size w wr) (λi _=>n-(intOf i).toNat)
 case atStart=>exact⟨d,hd1.2.1,by rw[hd],hd1.2.2,qj,HBE⟩
 case round=>
  obtain⟨m,hm,rfl,h0,hb,fM⟩:=hrel;by_cases yt:m<n
  ·obtain⟨d2,N8⟩:=aJ (Nat.min m (n-m))
   have h2:0<d2/\d2<=m/\m+d2<=n:=by
    have e:d2=if m<=n-m then m else n-m:=by rw[N8];rfl
    have:=h0 ak;split at e<;>omega
   have Dy:=λty=>akk hb.drew h2.2.2 ⟨w.heap.size,0,none⟩ m n (n-m) (n-m) N8 (λj hj=>by
    rw[Addr.aen,Nat.zero_add,hb.drew.cell,ahX z ak]) ty
   have dL:¬n=m:=by omega
   clear N8;go_wp2
   go_region
   go_wp2
   go_roundw
   case rel=>exact⟨m+d2,h2.2.2,by go_num,λ_=>by omega,Kt hb.drew,below_setRow fM.drew aK _⟩
   case measure=>simp[intOf];omega
  ·obtain rfl:m=n:=by omega
   go_wp2;go_ret;exact⟨rfl,hb,fM⟩
theorem kC(w:World)(o:Obj):(w.alloc o).heap.size=w.heap.size+1:=by simp
def Ku:ByteArray:=⟨(Lib.repeatL [0] 256).toArray⟩
theorem aa5(w:World):Calls prog 59 #[.string ⟨#[0]⟩, .int .i64 256] w λe w'=>e= .returned (.string Ku)/\Below w.heap.size w w':=
 Uc ⟨#[0]⟩ 256 w ay ay
def uO(k:Int):Nat:=(min (max k 0) 16384).toNat
theorem aeo(k:Int)(w:World):
  Calls prog 31 #[.int .i64 k] w λe w'=>∃d s m,e= .returned (.pointer (some ⟨d,0,none⟩))/\w.heap.size<=d/\w.heap.size<=s/\w.heap.size<=m/\aO w' s 9 (tN Ku (uO k) (uO k))/\w'.heap[m]? =some (.map #[] 0)/\
   aO w' d 120 #[.slice (some ⟨s,0,none⟩) (uO k) (uO k), .map (some m), .slice none 0 0, .int .i64 (-1), .bool false, .int .i64 0, .int .i64 0]/\Below w.heap.size w w':=by
 have hz:=λW=>aa5 W;have Vz:= @run_makeMap prog;obtain⟨n,hn⟩:=aJ (uO k);rw[<-hn];have Nh:n<=16384/\(n:Int)=min (max k 0) 16384:=by unfold uO at hn;omega
 generalize Ku=z at*;clear hn;have hR:=λg c W h=>Xw g c z n Nh.1 W h;go_enter func31,ntmps31
 go_wp2_with (go_at_call 59;refine(hz _).mono ?_;rintro e w1 ⟨rfl,b1⟩)
 rw[<-Nh.2];refine(hR w1.heap.size 1 _ (aO.new w1 _ _)).mono ?_;rintro e w2 ⟨rfl,r2,b2⟩;rw[kC]at r2 b2;have b3:Below w.heap.size w w2:=(b1.alloc b1.size _).trans (b2.mono (by have:=b1.size;omega));have hs:=b2.size;rw[kC]at hs;have jr:=b1.size;rw[kC];generalize hp:w1.heap.size+1=p at*;have hlt:=r2.lt;clear b2 b1 Nh;go_wp2;go_ret;refine⟨w2.heap.size+1,p,w2.heap.size,rfl,by omega,by omega,by omega,(r2.alloc _).alloc _, ?_, ?_,(b3.alloc b3.size _).alloc (by rw[kC];omega) _⟩
 ·exact(Below.heap_alloc _ _ _ (by rw[kC];omega)).trans (heap_alloc_new w2 _)
 ·have h:=aO.new (w2.alloc (Obj.map #[] 0)) 120 #[.slice (some ⟨p,0,none⟩) n n, .map (some w2.heap.size), .slice none 0 0, .int .i64 (-1), .bool false, .int .i64 0, .int .i64 0]
  rwa [kC]at h
def Qy(w:World)(d n:Nat):Prop:=∃cs A c,aO w d 120 cs/\cs[0]? =some (.slice A n c)
def C9(w:World)(f n:Nat):Prop:=∃d,aO w f 108 #[.pointer (some ⟨d,0,none⟩)]/\Qy w d n
theorem ahY(k:Int)(w:World):
  Calls prog 31 #[.int .i64 k] w λe w'=>∃d,e= .returned (.pointer (some ⟨d,0,none⟩))/\Qy w' d (uO k)/\Below w.heap.size w w':=by
 refine(aeo k w).mono ?_;rintro e w' ⟨d,s,m,rfl,h1,_,_,_,_,h2,h3⟩;exact⟨d,rfl,⟨_,_,_,h2,rfl⟩,h3⟩
theorem Ud(d n:Nat)(w:World)(hd:Qy w d n):Calls prog 83 #[.pointer (some ⟨d,0,none⟩)] w λe w'=>e= .returned (.int .i64 n)/\w'=w:=by
 obtain⟨cs,A,c,h1,h2⟩:=hd;have hlt:=h1.lt;have hc:=(h1.cell 0).trans h2;go_enter func83,ntmps83
 go_wp2;go_ret;exact⟨rfl,rfl⟩
theorem Ue(f n:Nat)(w:World)(hf:C9 w f n):Calls prog 57 #[.pointer (some ⟨f,0,none⟩)] w λe w'=>e= .returned (.int .i64 (max (n:Int) 2))/\w'=w:=by
 obtain⟨d,h2,h3⟩:=hf;have hs:=Ud d n w h3;have hlt:=h2.lt;have hc:=h2.cell 0;clear h3;go_enter func57,ntmps57
 go_wp2_with (go_at_call 83;refine hs.mono ?_;rintro e w' ⟨rfl,hw⟩;replace hw:=hw.symm;subst hw)
 go_ret;exact⟨rfl,rfl⟩
theorem aep(d n:Nat)(w:World)(hd:Qy w d n):Calls prog 30 #[.pointer (some ⟨d,0,none⟩)] w λe w'=>∃f,e= .returned (.pointer (some ⟨f,0,none⟩))/\C9 w' f n/\Below w.heap.size w w':=by
 go_enter func30,ntmps30
 go_wp2;go_ret;obtain⟨cs,A,c,h1,h2⟩:=hd;exact⟨_,rfl,⟨d,aO.new w _ _,cs,A,c,h1.alloc _,h2⟩,(aai _ w).alloc aK _⟩
def Uf(v:Value):Option (DataW Value × List MemPlace):=
 match v with
 | .agg ⟨[.bool _, .int .u8 _, .string _]⟩=>some (.held v, [])
 |_=>none
def content(b:Bool)(q:Int)(s:ByteArray):Value:= .agg #[.bool b, .int .u8 q, .string s]
theorem Kw(b:Bool)(q:Int)(s:ByteArray):Uf (content b q s)=some (.held (content b q s), []):=rfl
theorem O1{v:Value}{z:DataW Value × List MemPlace}(h:Uf v=some z):∃b q s,v=content b q s/\z=(.held v, []):=by
 unfold Uf at h;split at h
 ·rename_i b q s;exact⟨b,q,s,rfl,by cases h;rfl⟩
 ·cases h
theorem ahZ{x:Int}(hx:(aj6 .i64 x).wf=true):keyOf prog 3 (.int .i64 x)=some (.int .i64 x):=Maps.keyOf_int_mk underlying3 hx
theorem Qz:Maps.Keyed prog 3:=Maps.int_keyed underlying3
structure uH(w:World)(t m f n:Nat)(free:List Run)(pages:Int)(k:Nat)(D:DataW Value):Prop where
 file:C9 w f n
 self:∃v,aO w t 106 #[.pointer (some ⟨f,0,none⟩),v, .int .i64 pages, .map (some m)]/\Own w 0 v free
 map:w.ownsMap prog 3 Uf m k D
section
variable {w w':World}{t m f n k:Nat}{free:List Run}{pages:Int}{D:DataW Value}
theorem Own.keep{row:Option Nat}{base:Nat}{v:Value}{l:List Run}(h:Own w base v l)(hg:w.grownBy w' row)(hr:∀r,row=some r->∃o,w.heap[r]? =some o/\∀cs,o≠ .cells cs 102 (0,0)):Own w' base v l:=by
 rcases h with⟨h1,h2 | ⟨g,cap,cur,hv,hb,hh,r⟩⟩
 ·exact⟨h1, .inl h2⟩
 ·refine⟨h1, .inr ⟨g,cap,cur,hv,hb,(hg.block g (Array.getElem?_eq_some_iff.1 hh).1 ?_).trans hh,r⟩⟩;intro e;obtain⟨o,ho,dL⟩:=hr g e.symm;rw[hh]at ho;cases ho;exact dL cur rfl
theorem aO.keep{row:Option Nat}{g:Nat}{ty:TypeId}{cs:Array Value}(h:aO w g ty cs)(hg:w.grownBy w' row)(hr:∀r,row=some r->∃o,w.heap[r]? =some o/\∀cs,o≠ .cells cs ty (0,0)):aO w' g ty cs:=by
 refine(hg.block g h.lt ?_).trans h;intro e;obtain⟨o,ho,dL⟩:=hr g e.symm;unfold aO at h;rw[h]at ho;cases ho;exact dL cs rfl
def Far(o:Obj):Prop:=(∀cs,o≠ .cells cs 102 (0,0))/\(∀cs,o≠ .cells cs 106 (0,0))/\(∀cs,o≠ .cells cs 108 (0,0))/\(∀cs,o≠ .cells cs 120 (0,0))/\∀es c,o≠ .map es c
theorem C9.keep{row:Option Nat}(h:C9 w f n)(hg:w.grownBy w' row)(hr:∀r,row=some r->∃o,w.heap[r]? =some o/\(∀cs,o≠ .cells cs 108 (0,0))/\(∀cs,o≠ .cells cs 120 (0,0))):C9 w' f n:=by
 obtain⟨d,h1,cs,A,c,h2,h3⟩:=h;exact⟨d,h1.keep hg (λr e=>by obtain⟨o,ho,a,b⟩:=hr r e;exact⟨o,ho,a⟩),cs,A,c,h2.keep hg (λr e=>by obtain⟨o,ho,a,b⟩:=hr r e;exact⟨o,ho,b⟩),h3⟩
theorem uH.keep{row:Option Nat}(h:uH w t m f n free pages k D)(hg:w.grownBy w' row)(hr:∀r,row=some r->∃o,w.heap[r]? =some o/\Far o):uH w' t m f n free pages k D:=by
 obtain⟨h1,⟨v,h2,h3⟩,h4⟩:=h;refine⟨h1.keep hg (λr e=> ?_),⟨v,h2.keep hg (λr e=> ?_),h3.keep hg (λr e=> ?_)⟩,h4.kept hg (λe=> ?_)⟩
 ·obtain⟨o,ho,a⟩:=hr r e;exact⟨o,ho,a.2.2.1,a.2.2.2.1⟩
 ·obtain⟨o,ho,a⟩:=hr r e;exact⟨o,ho,a.2.1⟩
 ·obtain⟨o,ho,a⟩:=hr r e;exact⟨o,ho,a.1⟩
 ·obtain⟨o,ho,a⟩:=hr m e.symm;obtain⟨es,c,hm,_⟩:=h4;rw[hm]at ho;cases ho;exact a.2.2.2.2 es c rfl
theorem uH.below(h:uH w t m f n free pages k D)(hb:Below w.heap.size w w'):uH w' t m f n free pages k D:=h.keep (kR hb none) (λr e=>by cases e)
end
def tV(id:Int):Prop:=0<=id/\id<=4294967295
theorem tV.wf{id:Int}(h:tV id):(aj6 .i64 id).wf=true:=WalkArith.wf_i64 (by unfold tV at h;omega)
def ah0(B:Nat)(w:World)(S:Nat->Prop):Prop:=∀k,S k->B<=k/\∀o,w.heap[k]? =some o->Far o
structure oU(S:Nat->Prop)(B t:Nat)(room:Int)(disk:Tp.iW)(TM:Nat->Tp.dR->World->Prop):Prop where
 low:∀k,S k->k<B
 size:∀ {r σ w},TM r σ w->B<=w.heap.size
 up:∀ {r σ w w' S'},TM r σ w->Fr S' w w'->ah0 B w S'->TM r σ w'
 less:∀ {r r' σ w},TM r σ w->r'<=r->TM r' σ w
 ht:∀ {r σ w id n},TM r σ w->σ.view disk id=some n->Nd.fits n=true/\tV id
 get:∀ {r σ w id n},TM (r+1) σ w->σ.view disk id=some n->∀k:Nat,(n.leaf=true->k=1)->(n.leaf=false->k=2)->
  Calls prog 144 #[.pointer (some ⟨t,0,none⟩), .int .i64 id, .int .u8 k] w λe w'=>e= .returned (.tuple #[.string (Nd.str (Nd.enc n)), .int .i64 0])/\TM r σ w'/\Fr S w w'
 ah1:∀ {r σ w id n},TM (r+1) σ w->σ.view disk id=some n->n.leaf=false->
  Calls prog 144 #[.pointer (some ⟨t,0,none⟩), .int .i64 id, .int .u8 1] w λe w'=>e= .returned (.tuple #[.string ⟨#[]⟩, .int .i64 3])/\TM r σ w'/\Fr S w w'
 fresh:∀ {r σ w} (id:Int),TM r σ w->tV id->
  Calls prog 207 #[.pointer (some ⟨t,0,none⟩), .int .i64 id] w λe w'=>e= .returned (.bool (decide (id∈σ.mine)))/\TM r σ w'/\Fr S w w'
 alloc:∀ {r σ σ' w id},TM r σ w->Tp.oN room σ=some (id,σ')->
  Calls prog 216 #[.pointer (some ⟨t,0,none⟩)] w λe w'=>e= .returned (.tuple #[.int .i64 id, .int .i64 0])/\tV id/\id∈σ'.mine/\TM r σ' w'/\Fr S w w'
 full:∀ {r σ w},TM r σ w->Tp.oN room σ=none->
  Calls prog 216 #[.pointer (some ⟨t,0,none⟩)] w λe w'=>e= .returned (.tuple #[.int .i64 0, .int .i64 2])/\TM r σ w'/\Fr S w w'
 put:∀ {r σ w id n},TM r σ w->tV id->id∈σ.mine->Nd.fits n=true->∀k:Nat,(n.leaf=true->k=1)->(n.leaf=false->k=2)->
  Calls prog 217 #[.pointer (some ⟨t,0,none⟩), .int .i64 id, .int .u8 k, .string (Nd.str (Nd.enc n))] w λe w'=>e= .returned (.int .i64 0)/\TM r (σ.put id n) w'/\Fr S w w'
 drop:∀ {r σ w} (id:Int),TM r σ w->tV id->
  Calls prog 182 #[.pointer (some ⟨t,0,none⟩), .int .i64 id] w λe w'=>e= .returned (.tuple #[])/\TM r (Tp.iK σ id) w'/\Fr S w w'
section
variable {S S':Nat->Prop}{B t:Nat}{room:Int}{disk:Tp.iW}{TM:Nat->Tp.dR->World->Prop}{w w' w'':World}{r:Nat}{σ:Tp.dR}
theorem Fr.old(h:Fr S' w w')(hS:∀k,S' k->S k\/w.heap.size<=k):Fr S w w':=⟨h.os,h.tape,h.output,h.size,λk hk hn=>h.block k hk (λa=>by rcases hS k a with h1 | h1;exact hn h1;omega)⟩
theorem oU.below(M:oU S B t room disk TM)(h:TM r σ w)(hb:Below w.heap.size w w'):TM r σ w':=M.up (S':=λ_=>False) h (.of_below hb) (λ_ hk=>hk.elim)
theorem oU.own(M:oU S B t room disk TM){g:Nat}{ty:TypeId}{cs:Array Value}(h:TM r σ w)(hf:Fr (λk=>k=g) w w')(hB:aO w g ty cs)(hg:B<=g)(h1:ty≠102)(h2:ty≠106)(h3:ty≠108)(h4:ty≠120):TM r σ w':=
 M.up h hf (λk hk=>by
  subst hk;refine⟨hg,λo ho=> ?_⟩;have e:o= .cells cs ty:=by have:=ho.symm.trans hB;injection this
  subst e
  exact⟨λcs' e=>by injection e with _ e;exact h1 e,λcs' e=>by injection e with _ e;exact h2 e,λcs' e=>by injection e with _ e;exact h3 e,λcs' e=>by injection e with _ e;exact h4 e,λ_ _ e=>by cases e⟩)
def O4(t:Nat)(root e:Int):Array Value:= #[.pointer (some ⟨t,0,none⟩), .int .i64 root, .int .i64 e]
end
def zC(pages:Int)(n:Nat):Int:=min (max pages 2) (max (n:Int) 2)
theorem aer(f n:Nat)(A:Option Addr)(c:Nat)(l:List Run)(pages:Int)(hn:n<=16384)(w:World)(hf:C9 w f n)(hr:RS w w.heap.size A l)(hl:l.length<=50000):
  Calls prog 29 #[.pointer (some ⟨f,0,none⟩), .slice A l.length c, .int .i64 pages] w λe w'=>∃t m,e= .returned (.pointer (some ⟨t,0,none⟩))/\(w.heap.size<=t/\w.heap.size<=m)/\uH w' t m f n (Rp.meet l [(2,zC pages n-1)]) (zC pages n) 0 (.map [])/\Below w.heap.size w w':=by
 obtain⟨p,hp⟩:=aJ (zC pages n);rw[<-hp];have hp1:2<=p/\p<=16384/\p=min (max pages 2) (max (n:Int) 2):=by unfold zC at hp;omega
 have asY:=Ue f n w hf;have Vz:= @run_makeMap prog;have hm:=λW h=>aS (TW A (some ⟨W.heap.size,0,none⟩) c 1 l [(2,p-1)] _ h (RS.single W 2 (p-1) 102) ak aH);obtain⟨o,ho⟩:=aJ (Rp.meet l [(2,p-1)]);rw[<-ho]at hm ⊢;clear ho hp;go_enter func29,ntmps29
 go_wp2_with (go_at_call 57;refine asY.mono ?_;rintro e w' ⟨rfl,hw⟩;replace hw:=hw.symm;subst hw)
 rw[<-hp1.2.2];refine(hm w ((hr.below ((aai _ w).alloc aK _)).more aH)).out.mono ?_;intro e w2 he;obtain⟨A1,c1,rfl,ho1,r1,b1⟩:=he.open_;clear he hm;have b3:Below w.heap.size w w2:=((aai _ w).alloc aK _).trans (b1.mono aH);have yK:=hf.keep (kR b3 none) (λr e=>by cases e);have Ij:Own w2 0 (.slice A1 o.length c1) o:=BL ho1 (ac4 _);clear b1 ho1 r1 hp1;go_wp2;go_ret;refine⟨w2.heap.size+1,w2.heap.size,rfl,⟨by have:=b3.size;omega,b3.size⟩,⟨(yK.keep (agW w2 _ none) (λr e=>by cases e)).keep (agW _ _ none) (λr e=>by cases e),⟨_, ?_,(Ij.keep (agW w2 _ none) (λr e=>by cases e)).keep (agW _ _ none) (λr e=>by cases e)⟩,(World.ownsMap_made w2 _ _ _).alloc _⟩,(b3.alloc b3.size _).alloc (by have:=b3.size;rw[kC];omega) _⟩;have h:=aO.new (w2.alloc (Obj.map #[] 0)) 106 #[.pointer (some ⟨f,0,none⟩), .slice A1 o.length c1, .int .i64 p, .map (some w2.heap.size)]
 rwa [kC]at h
theorem xP(t m f n k:Nat)(free:List Run)(pages:Int)(D:DataW Value)(id:Int)(hid:(aj6 .i64 id).wf=true)(w:World)(h:uH w t m f n free pages k D):
  Calls prog 207 #[.pointer (some ⟨t,0,none⟩), .int .i64 id] w λe w'=>e= .returned (.bool (ahj D (.int .i64 id)))/\Below w.heap.size w w':=by
 obtain⟨_,⟨v,h2,h3⟩,h4⟩:=h;have hlt:=h2.lt;have hc:=h2.cell 3;obtain⟨u,ps,vP,hu⟩:=h4.look_ok Qz underlying104 (Tryz.zeroValue252 w) (Kw _ _ _) (ahZ hid);obtain⟨b,q,s,rfl,_⟩:=O1 hu;unfold content at vP;clear hu;generalize ahj D (.int .i64 id)=hh at*;go_enter func207,ntmps207
 go_wp2;go_ret;exact⟨rfl,(aai _ w).alloc aK _⟩
structure Touch(t m:Nat)(w w':World):Prop where
 os:w'.os=w.os
 tape:w'.tape=w.tape
 output:w'.output=w.output
 size:w.heap.size<=w'.heap.size
 block:∀k,k<w.heap.size->k≠t->k≠m->w'.heap[k]? =w.heap[k]?
section
variable {t m:Nat}{w w' w'':World}
theorem Touch.of_below(h:Below w.heap.size w w'):Touch t m w w':=⟨h.os,h.tape,h.output,h.size,λk hk _ _=>h.block k hk⟩
theorem Touch.trans(h:Touch t m w w')(h':Touch t m w' w''):Touch t m w w'':=
 ⟨h'.os.trans h.os,h'.tape.trans h.tape,h'.output.trans h.output,Nat.le_trans h.size h'.size,λk hk a b=>(h'.block k (Nat.lt_of_lt_of_le hk h.size) a b).trans (h.block k hk a b)⟩
theorem Touch.iO{r:Nat}(h:w.grownBy w' (some r))(hr:r=t\/r=m):Touch t m w w':=
 ⟨h.os,h.tape,h.output,h.size,λk hk a b=>h.block k hk (λe=>by injection e with e;omega)⟩
end
section
variable {w w':World}{t m f n k:Nat}{free:List Run}{pages:Int}{D:DataW Value}
theorem uH.Zb(h:uH w t m f n free pages k D){v:Value}{fr:List Run}(hv:Own w 0 v fr):uH (w.setCell ⟨t,1,none⟩ v) t m f n fr pages k D:=by
 obtain⟨h1,⟨u,h2,h3⟩,h4⟩:=h;have hg:w.grownBy (w.setCell ⟨t,1,none⟩ v) (some t):=mg (agi w _) (.inl rfl) _
 have hb:∀ty,ty≠106->∀r,some t=some r->∃o,w.heap[r]? =some o/\∀cs,o≠ .cells cs ty (0,0):=λty dL r e=>by
  cases e;exact⟨_,h2,λcs e=>by injection e with _ e;exact dL e.symm⟩
 have dL:t≠m:=λe=>by obtain⟨es,c,hm,_⟩:=h4;subst e;unfold aO at h2;rw[h2]at hm;cases hm
 refine⟨h1.keep hg (λr e=> ?_),⟨v,h2.dO 1 v,hv.keep hg (hb _ ay)⟩,h4.setCell (λe=>dL e.symm) _⟩
 cases e
 exact⟨_,h2,(λcs e=>by injection e with _ e;cases e),(λcs e=>by injection e with _ e;cases e)⟩
theorem uH.aes(h:uH w t m f n free pages k D)(p:Int):uH (w.setCell ⟨t,2,none⟩ (.int .i64 p)) t m f n free p k D:=by
 obtain⟨h1,⟨u,h2,h3⟩,h4⟩:=h;have hg:w.grownBy (w.setCell ⟨t,2,none⟩ (.int .i64 p)) (some t):=mg (agi w _) (.inl rfl) _;have dL:t≠m:=λe=>by obtain⟨es,c,hm,_⟩:=h4;subst e;unfold aO at h2;rw[h2]at hm;cases hm
 refine⟨h1.keep hg (λr e=> ?_),⟨u,h2.dO 2 _,h3.keep hg (λr e=> ?_)⟩,h4.setCell (λe=>dL e.symm) _⟩
 ·cases e
  exact⟨_,h2,(λcs e=>by injection e with _ e;cases e),(λcs e=>by injection e with _ e;cases e)⟩
 ·cases e
  exact⟨_,h2,λcs e=>by injection e with _ e;cases e⟩
theorem uH.turn(h:uH w t m f n free pages k D){k':Nat}{D':DataW Value}(hg:w.grownBy w' (some m))(hm:w'.ownsMap prog 3 Uf m k' D'):uH w' t m f n free pages k' D':=by
 obtain⟨h1,⟨u,h2,h3⟩,h4⟩:=h;obtain⟨es,c,hm0,_⟩:=h4;refine⟨h1.keep hg (λr e=> ?_),⟨u,h2.keep hg (λr e=> ?_),h3.keep hg (λr e=> ?_)⟩,hm⟩
 all_goals cases e
 ·exact⟨_,hm0,(λcs e=>by cases e),(λcs e=>by cases e)⟩
 ·exact⟨_,hm0,λcs e=>by cases e⟩
 ·exact⟨_,hm0,λcs e=>by cases e⟩
theorem Touch.dO{w:World}{t m i:Nat}(v:Value):Touch t m w (w.setCell ⟨t,i,none⟩ v):=Touch.iO (mg (agi w (some t)) (.inl rfl) _) (.inl rfl)
theorem wfI{x:Int}(h: -9223372036854775808<=x/\x<=9223372036854775807):(aj6 .i64 x).wf=true:=WalkArith.wf_i64 h
theorem uH.store(h:uH w t m f n free pages k D)(hk:k<maxLen){id:Int}(hid:(aj6 .i64 id).wf=true)(b:Bool)(q:Int)(s:ByteArray):
  ∃w',(Instr.mapUpdate 104 (.map (some m)) (.int .i64 id) (.agg #[.bool b, .int .u8 q, .string s])).run prog w= .ok () w'/\uH w' t m f n free pages (k+1) (D.put (.int .i64 id) (.held (content b q s)))/\w.grownBy w' (some m):=by
 obtain⟨w',h1,h2,h3⟩:=h.map.store Qz underlying104 hk (ahZ hid) (Kw b q s);exact⟨w',h1,h.turn h3.grown h2,h3.grown⟩
end
def nR(free:List Run)(pages room:Int):Option (Int × List Run × Int):=
 match xO free with
 |some id=>some (id,Rp.minus free [(id,id)],pages)
 |none=>if room<=pages then none else some (pages,free,pages+1)
def mZ(o:Option (Int × List Run × Int))(t m f n:Nat)(free:List Run)(pages:Int)(k:Nat)(D:DataW Value)(w:World)(e:Ending)(w':World):Prop:=
 Touch t m w w'/\match o with
 |none=>e= .returned (.tuple #[.int .i64 0, .int .i64 2])/\uH w' t m f n free pages k D
 |some (id,fr,p)=>e= .returned (.tuple #[.int .i64 id, .int .i64 0])/\uH w' t m f n fr p (k+1) (D.put (.int .i64 id) (.held (content false 0 ⟨#[]⟩)))
theorem mZ.some_{o:Option (Int × List Run × Int)}{t m f n k:Nat}{free fr:List Run}{pages p id:Int}{D:DataW Value}{w w':World}(ho:o=some (id,fr,p))(h:Touch t m w w')(h':uH w' t m f n fr p (k+1) (D.put (.int .i64 id) (.held (content false 0 ⟨#[]⟩)))):
  mZ o t m f n free pages k D w (.returned (.tuple #[.int .i64 id, .int .i64 0])) w':=by subst ho;exact⟨h,rfl,h'⟩
theorem mZ.none_{o:Option (Int × List Run × Int)}{t m f n k:Nat}{free:List Run}{pages:Int}{D:DataW Value}{w w':World}(ho:o=none)(h:Touch t m w w')(h':uH w' t m f n free pages k D):
  mZ o t m f n free pages k D w (.returned (.tuple #[.int .i64 0, .int .i64 2])) w':=by subst ho;exact⟨h,rfl,h'⟩
theorem ah2{l:List Run}{x:Int} :x∈evs l ↔ ∃r∈l,r.1<=x/\x<=r.2:=by
 unfold evs;rw[List.mem_flatMap];constructor
 ·rintro⟨r,hr,hx⟩;refine⟨r,hr, ?_⟩;unfold Bl cnt at hx;obtain⟨i,hi,rfl⟩:=List.mem_map.1 hx;rw[adq]at hi;omega
 ·rintro⟨r,hr,h1,h2⟩;refine⟨r,hr,List.mem_map.2 ⟨(x-r.1).toNat, ?_,by omega⟩⟩;rw[adq];unfold cnt;omega
theorem aa6{l:List Run}{x:Int}(h:xO l=some x):0<=x/\x<=4294967295:=by
 unfold xO at h;have hx:=List.mem_of_head? h;obtain⟨r,hr,h1,h2⟩:=ah2.1 hx;have:=FT _ 0 (Int.le_refl _) (Rp.xH l).1 r hr;omega
theorem Ug(t m f n k:Nat)(free:List Run)(pages:Int)(D:DataW Value)(id:Int)(hid:xO free=some id)(hl:free.length<=80000)(hk:k<maxLen)(w:World)(h:uH w t m f n free pages k D)(o:Option (Int × List Run × Int))(ho:o=some (id,Rp.minus free [(id,id)],pages)):
  Calls prog 216 #[.pointer (some ⟨t,0,none⟩)] w (mZ o t m f n free pages k D w):=by
 have pW:=aa6 hid;have hT:=h;obtain⟨_,⟨v,h2,h3⟩,_⟩:=h;obtain⟨A,c,rfl⟩:=h3.form;have hlt:=h2.lt;have hc:=h2.cell 1;have hF:=aS (first_any A c free ak w h3.rs);rw[hid]at hF;have hRm:=λW h=>aS (Xr A c free id W h ak);have HO:=ah ho;clear ho;generalize Rp.minus free [(id,id)]=fr at*;go_enter func216,ntmps216
 go_wp2_with fail
 refine hF.out.mono ?_;rintro e w1 ⟨rfl,b1⟩;have ZP:=hT.below b1;have PZ:=h2.below b1 hlt;have h31:=h3.keep (kR b1 none) (λr e=>by cases e);have ajM:=PZ.lt;have ZO:=PZ.cell 1;have hc3:=PZ.cell 3;go_wp2_with fail
 refine(hRm w1 h31.rs).out.mono ?_;intro e w2 he;obtain⟨A2,c2,rfl,Ij,r2,b2⟩:=he.open_;clear he hRm hF;have ho0:Own w2 0 (.slice A2 fr.length c2) fr:=Ij.lower (ac4 _);have Ba:=(ZP.below b2).Zb ho0;have h22:=PZ.below b2 ajM;have yt:=h22.lt;have avv:=h22.cell 1;have hcf:=h22.frozen 1;have h23:=h22.dO 1 (.slice A2 fr.length c2);have asB:=h23.lt;have avw:=h23.cell 3;obtain⟨w4,vP,hT4,hg4⟩:=Ba.store hk (wfI (x:=id) ak) false 0 ⟨#[]⟩;have hTo:Touch t m w w4:=((Touch.of_below b1).trans ((Touch.of_below b2).trans (Touch.dO _))).trans (Touch.iO hg4 (.inr rfl));clear hT ZP Ba h2 h3 PZ h31 ho0 Ij r2 b1 b2 hg4;go_wp2;go_ret2;exact mZ.some_ HO hTo hT4
theorem Uh(t m f n k:Nat)(free:List Run)(pages:Int)(D:DataW Value)(hid:xO free=none)(hl:free.length<=80000)(hk:k<maxLen)(hp:0<=pages/\pages<=1000000)(w:World)(h:uH w t m f n free pages k D)(o:Option (Int × List Run × Int))(ho:o=if max (n:Int) 2<=pages then none else some (pages,free,pages+1)):
  Calls prog 216 #[.pointer (some ⟨t,0,none⟩)] w (mZ o t m f n free pages k D w):=by
 have hT:=h;obtain⟨hf,⟨v,h2,h3⟩,_⟩:=h;obtain⟨A,c,rfl⟩:=h3.form;have hlt:=h2.lt;have hc:=h2.cell 1;have hF:=aS (first_any A c free ak w h3.rs);rw[hid]at hF;have HO:=ah ho;clear ho;go_enter func216,ntmps216
 go_wp2_with fail
 refine hF.out.mono ?_;rintro e w1 ⟨rfl,b1⟩;have ZP:=hT.below b1;have eH:=hf.keep (kR b1 none) (λr e=>by cases e);have PZ:=h2.below b1 hlt;have ajM:=PZ.lt;have V7:=PZ.cell 0;have Dy:=PZ.cell 2;have hc3:=PZ.cell 3;have hR:=λW h=>Ue f n W h;by_cases akU:max (n:Int) 2<=pages
 ·have ho:o=none:=by rw[HO.out,if_pos akU]
  clear HO;go_wp2_with fail
  go_quiet ((go_at_call 57;refine ahh (hR _ eH)))
  have bq:=below_drewN b1 nq;generalize w1.drewN nq=W1 at*;have hTq:=hT.below bq;go_wp2;go_ret2;exact mZ.none_ ho (Touch.of_below bq) hTq
 ·have ho:o=some (pages,free,pages+1):=by rw[HO.out,if_neg akU]
  clear HO;go_wp2_with fail
  go_quiet ((go_at_call 57;refine ahh (hR _ eH)))
  have bq:=below_drewN b1 nq;generalize w1.drewN nq=W1 at*;have hTq:=hT.below bq;have h2q:=h2.below bq hlt;have hcf:=h2q.frozen 2;have aBM:=h2q.lt;have aBN:=h2q.cell 2;have Ba:=hTq.aes (pages+1);have h22:=h2q.dO 2 (.int .i64 (pages+1));have yt:=h22.lt;have avw:=h22.cell 3;obtain⟨w4,vP,hT4,hg4⟩:=Ba.store hk (wfI (x:=pages) ak) false 0 ⟨#[]⟩;have hTo:Touch t m w w4:=((Touch.of_below bq).trans (Touch.dO _)).trans (Touch.iO hg4 (.inr rfl));clear hT hTq ZP Ba h2 h3 PZ hg4;go_wp2;go_ret2;exact mZ.some_ ho hTo hT4
theorem Ky(t m f n k:Nat)(free:List Run)(pages:Int)(D:DataW Value)(hl:free.length<=80000)(hk:k<maxLen)(hp:0<=pages/\pages<=1000000)(w:World)(h:uH w t m f n free pages k D):
  Calls prog 216 #[.pointer (some ⟨t,0,none⟩)] w (mZ (nR free pages (max (n:Int) 2)) t m f n free pages k D w):=by
 cases hid:xO free with
 |none=>exact Uh t m f n k free pages D hid hl hk hp w h _ (by unfold nR;rw[hid])
 |some id=>exact Ug t m f n k free pages D id hid hl hk w h _ (by unfold nR;rw[hid])
section
variable {w w':World}{t m f n k:Nat}{free:List Run}{pages:Int}{D:DataW Value}
theorem uH.del(h:uH w t m f n free pages k D){id:Int}(hid:(aj6 .i64 id).wf=true)(ty:TypeId):
  ∃w',(Builtin.delete_ #[104,3] ty #[.map (some m), .int .i64 id]).run prog w= .ok (.tuple #[]) w'/\uH w' t m f n free pages k (D.del (.int .i64 id))/\w.grownBy w' (some m):=by
 obtain⟨w',h1,h2,h3⟩:=h.map.drop Qz underlying104 (ahZ hid) ty;exact⟨w',h1,h.turn h3.grown h2,h3.grown⟩
end
def D8(free:List Run)(D:DataW Value)(id:Int):List Run:=if ahj D (.int .i64 id)then Rp.union free [(id,id)]else free
def QA(t m f n:Nat)(fr:List Run)(pages:Int)(k:Nat)(D':DataW Value)(w:World)(e:Ending)(w':World):Prop:=
 e= .returned (.tuple #[])/\Touch t m w w'/\uH w' t m f n fr pages k D'
theorem aa7(t m f n k:Nat)(free:List Run)(pages:Int)(D:DataW Value)(id:Int)(hid:(aj6 .i64 id).wf=true)(hl:free.length<=80000)(hh:ahj D (.int .i64 id)=true)(w:World)(h:uH w t m f n free pages k D):
  Calls prog 182 #[.pointer (some ⟨t,0,none⟩), .int .i64 id] w (QA t m f n (Rp.union free [(id,id)]) pages k (D.del (.int .i64 id)) w):=by
 have hF:=aS (xP t m f n k free pages D id hid w h);rw[hh]at hF;have hT:=h;obtain⟨_,⟨v,h2,h3⟩,_⟩:=h;obtain⟨A,c,rfl⟩:=h3.form;have hlt:=h2.lt;have hRm:=λW h=>aS (add_any A c free id W h ak);generalize Rp.union free [(id,id)]=fr at*;go_enter func182,ntmps182
 go_wp2_with fail
 refine hF.out.mono ?_;rintro e w1 ⟨rfl,b1⟩;have ZP:=hT.below b1;have PZ:=h2.below b1 hlt;have ajM:=PZ.lt;have hc3:=PZ.cell 3;obtain⟨w2,vP,Ba,hg2⟩:=ZP.del hid 0
 have h22:=PZ.keep hg2 (λr e=>by
  cases e
  obtain⟨es,cl,hm0,_⟩:=ZP.map
  exact⟨_,hm0,λcs e=>by cases e⟩)
 have aqb:=h3.keep (kR b1 none) (λr e=>by cases e)
 have h32:=aqb.keep hg2 (λr e=>by
  cases e
  obtain⟨es,cl,hm0,_⟩:=ZP.map
  exact⟨_,hm0,λcs e=>by cases e⟩)
 have yt:=h22.lt;have ZO:=h22.cell 1;go_wp2_with fail
 refine(hRm w2 h32.rs).out.mono ?_;intro e w3 he;obtain⟨A2,c2,rfl,Ij,r2,b2⟩:=he.open_;clear he hRm hF;have ho0:Own w3 0 (.slice A2 fr.length c2) fr:=Ij.lower (ac4 _);have hT3:=(Ba.below b2).Zb ho0;have h23:=h22.below b2 yt;have asB:=h23.lt;have avv:=h23.cell 1;have hcf:=h23.frozen 1;have hTo:=((Touch.of_below (t:=t) (m:=m) b1).trans (Touch.iO hg2 (.inr rfl))).trans ((Touch.of_below b2).trans (Touch.dO (i:=1) (.slice A2 fr.length c2)));clear hT ZP Ba h2 h3 PZ aqb h32 ho0 Ij r2 b1 b2 hg2;go_wp2
 go_end0
 exact⟨rfl,hTo,hT3⟩
theorem aeu(t m f n k:Nat)(free:List Run)(pages:Int)(D:DataW Value)(id:Int)(hid:(aj6 .i64 id).wf=true)(hh:ahj D (.int .i64 id)=false)(w:World)(h:uH w t m f n free pages k D):
  Calls prog 182 #[.pointer (some ⟨t,0,none⟩), .int .i64 id] w (QA t m f n free pages k D w):=by
 have hF:=aS (xP t m f n k free pages D id hid w h);rw[hh]at hF;go_enter func182,ntmps182
 go_wp2_with fail
 refine hF.out.mono ?_;rintro e w1 ⟨rfl,b1⟩;have ZP:=h.below b1;go_wp2
 go_end0
 exact⟨rfl,Touch.of_below b1,ZP⟩
def Hr(D:DataW Value)(id:Int):DataW Value:=if ahj D (.int .i64 id)then D.del (.int .i64 id)else D
theorem aa8(t m f n k:Nat)(free:List Run)(pages:Int)(D:DataW Value)(id:Int)(hid:(aj6 .i64 id).wf=true)(hl:free.length<=80000)(w:World)(h:uH w t m f n free pages k D):
  Calls prog 182 #[.pointer (some ⟨t,0,none⟩), .int .i64 id] w (QA t m f n (D8 free D id) pages k (Hr D id) w):=by
 cases hh:ahj D (.int .i64 id)with
 |true=>rw[show D8 free D id=Rp.union free [(id,id)]by unfold D8;rw[hh];rfl,show Hr D id=D.del (.int .i64 id)by unfold Hr;rw[hh];rfl];exact aa7 t m f n k free pages D id hid hl hh w h
 |false=>rw[show D8 free D id=free by unfold D8;rw[hh];rfl,show Hr D id=D by unfold Hr;rw[hh];rfl];exact aeu t m f n k free pages D id hid hh w h
def al8(E:Int)(t m f n:Nat)(free:List Run)(pages:Int)(k:Nat)(D':DataW Value)(w:World)(e:Ending)(w':World):Prop:=
 e= .returned (.int .i64 E)/\Touch t m w w'/\uH w' t m f n free pages k D'
theorem aev(t m f n k:Nat)(free:List Run)(pages:Int)(D:DataW Value)(id q:Int)(s:ByteArray)(hid:(aj6 .i64 id).wf=true)(hk:k<maxLen)(hh:ahj D (.int .i64 id)=true)(hs:s.size<=240)(w:World)(h:uH w t m f n free pages k D):
  Calls prog 217 #[.pointer (some ⟨t,0,none⟩), .int .i64 id, .int .u8 q, .string s] w (al8 0 t m f n free pages (k+1) (D.put (.int .i64 id) (.held (content true q s))) w):=by
 have hF:=aS (xP t m f n k free pages D id hid w h);rw[hh]at hF;have hT:=h;obtain⟨_,⟨v,h2,h3⟩,_⟩:=h;go_enter func217,ntmps217
 go_wp2_with fail
 refine hF.out.mono ?_;rintro e w1 ⟨rfl,b1⟩;have ZP:=hT.below b1;have PZ:=h2.below b1 h2.lt;have ajM:=PZ.lt;have hc3:=PZ.cell 3;obtain⟨w2,vP,Ba,hg2⟩:=ZP.store hk hid true q s;have hTo:=(Touch.of_below (t:=t) b1).trans (Touch.iO hg2 (.inr rfl));clear hT ZP h2 h3 PZ hg2 b1;go_wp2;go_ret;exact⟨rfl,hTo,Ba⟩
theorem Ui{D:DataW Value}(h:Maps.IsMap D)(id x:Int)(v:DataW Value):ahj (D.put (.int .i64 id) v) (.int .i64 x)=(decide (x=id)||ahj D (.int .i64 x)):=by
 by_cases e:x=id
 ·subst e;rw[Maps.has_put_same h (by trivial)];simp
 ·rw[Maps.has_put_other (by intro e2;injection e2 with _ e2;exact e e2)];simp[e]
theorem aew(D:DataW Value)(id x:Int):ahj (D.del (.int .i64 id)) (.int .i64 x)=(!decide (x=id)&&ahj D (.int .i64 x)):=by
 by_cases e:x=id
 ·subst e;rw[Maps.has_del_same];simp
 ·rw[Maps.has_del_other (by intro e2;injection e2 with _ e2;exact e e2)];simp[e]
end Go.Proofs.YtadnmegdbllaoaaGreatDoor
