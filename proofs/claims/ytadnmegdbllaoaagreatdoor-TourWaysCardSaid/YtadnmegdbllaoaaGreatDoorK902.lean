/- Part of this proof. -/
import Derived.Deep.LoopGhost
import Derived.Deep.RegionHeld3
import Derived.Deep.RegionLaw
import Derived.Test.YtadnmegdbllaoaaGreatDoorK900
import Derived.Test.YtadnmegdbllaoaaGreatDoorK901
set_option maxRecDepth 100000
set_option maxHeartbeats 8000000
open Array renaming length_toList->ag2,size_append->ahd
open Bool renaming and_eq_true->acJ
open ByteArray renaming ext->ahm,size_append->ajO,size_data->aj2
open Go.Calls renaming mono->aac
open Go.Lib renaming compareBytes->ajU
open Go.Op renaming bytesLess->agY
open Go.Result renaming andThen_ok->agc
open Go.RowKit.Below renaming refl->aai
open Go.World.ownsRow renaming lt->ada,stored->akR
open Int renaming toNat_natCast->agT
open List renaming append_assoc->ac8,cons_append->agZ,drop_eq_getElem_cons->ade,eq_nil_of_length_eq_zero->acY,find?_eq_none->akZ,flatMap_append->agt,flatMap_cons->ahf,getElem_mem->acT,length_append->aag,length_cons->acH,length_drop->acP,length_filter_le->ajA,length_take->acR,map_append->adt,map_cons->acX,mem_cons->aah,mem_cons_of_mem->acF,mem_cons_self->aae,nil_append->ajX,not_mem_nil->aaj,pairwise_cons->agz,pairwise_iff_getElem->agH,sum_cons->aj7,take_append_drop->ac1,take_length->ahe,take_succ_eq_append_getElem->acO
open Nat renaming le_trans->acN,zero_add->ahi
open UInt8 renaming lt_iff_toNat_lt->akc,ofNat->ag5
namespace Go.Proofs.YtadnmegdbllaoaaGreatDoor
open Go.RowKit Go.Shelf Tryz
theorem ahy(a b:ByteArray)(w:World):Calls prog 148 #[.string a, .string b] w λe w'=>e= .returned (.int .i64 (ajU a.data.toList b.data.toList))/\w'=w:=Any.strings_Compare Tryz.lays106 a b w
theorem aav(n:Nat)(w:World)(hn:n<=4000000):Calls prog 189 #[.slice none 0 0, .int .i64 n] w (IC gV 94 [] w):=by
 obtain⟨i0,hi,iR,gI,yj⟩:=YR;by_cases h0:n=0
 ·subst h0;refine aac (Any8.slices_Grow_room Tryz.growEnt none 0 0 0 w ak ak ak ak) ?_;rintro e w' ⟨rfl,hw⟩;subst hw;exact⟨_,rfl,LO.nil_ _ _,aU⟩
 ·refine aac (Any8.slices_Grow_grow Tryz.growEnt i0 _ hi iR ak none 0 0 n [] w ak ak (by rw[yj];omega) ak aH (λ_=>rfl) (λa h=>by cases h)) ?_;rintro e w' ⟨rfl,rfl⟩;refine⟨_,rfl, ?_,(aU.drew).alloc aK _⟩;refine World.ownsRow_made (base:=w.heap.size) (e:=94) (size:=2) w.drew _ _ aK (grownCap_le_maxLen w _ _ _ (by unfold maxLen;omega)) ?_;rw[ahd,ahd,size_zeroCells,size_zeroCells];have h:=grownCap_ge w (0+n) 0 94;have e1:(Value.agg #[Value.string ⟨#[]⟩,Value.string ⟨#[]⟩]).cells.size=2:=rfl;have e2:Tryz.growEnt_ren.t 25=94:=rfl;rw[e1,e2];simp only[ahi]at h ⊢;simp;omega
abbrev Part:=Option Addr × Nat × List bT
def kM(ps:List Part):List bT:=ps.flatMap (·.2.2)
def Sz(p:Part):Value:= .slice p.1 p.2.2.length p.2.1
theorem Oz(ps:List Part)(j:Nat)(hj:j<ps.length):kM (ps.take (j+1))=kM (ps.take j)++ps[j].2.2:=by
 unfold kM;rw[acO hj,agt];simp
theorem adH(ps:List Part)(j:Nat):(kM (ps.take j)).length<=(kM ps).length:=by
 have e:kM ps=kM (ps.take j)++kM (ps.drop j):=by unfold kM;rw[<-agt,ac1]
 rw[e,aag];omega
theorem zi(g n:Nat)(ps:List Part)(hn:ps.length=n)(uF:n<=10)(w:World)(hB:aO w g 50 (ps.map Sz).toArray)(BO:∀p∈ps,LS gV w w.heap.size p.1 p.2.2)(hl:(kM ps).length<=1000000):
  Calls prog 165 #[.slice (some ⟨g,0,none⟩) n n] w (IC gV 94 (kM ps) w):=by
 obtain⟨o,ho⟩:=aJ (kM ps);rw[<-ho];have HO:=ah ho;have HLS:=ah BO;have HN:=ah hn;have hnp:ps.length<=10:=by omega
 have apD:ps.length<=n:=by omega
 have apE:n<=ps.length:=by omega
 have oz:∀j (hj:j<ps.length),w.cell? ⟨g,j,none⟩=some (Sz ps[j]):=λj hj=>by
  rw[hB.cell j];simp[hj]
 have HC:=ah oz;have BP:=hB.lt;have qP:=λj=>adH ps j;clear ho BO hn oz hB;go_enter func165,ntmps165
 go_wp2
 go_loop [3,5,11] (λs _ i=>∃j:Nat,j<=ps.length/\i= .int .i64 j/\s= .int .i64 ((kM (ps.take j)).length:Int)) (λ_ _ i=>n-(intOf i).toNat)
 case atStart=>exact⟨0,by omega,rfl,rfl⟩
 case round=>
  obtain⟨j,hj,rfl,rfl⟩:=hrel;by_cases hlt:j<ps.length
  ·have yt:(j:Int)<n:=by omega
   have c0:=HC.out j hlt;have hs:=congrArg List.length (Oz ps j hlt);rw[aag]at hs;have h1:=qP (j+1);unfold Sz at c0;generalize ps[j]=p at*;obtain⟨pA,pk,pl⟩:=p;simp only at c0 hs;have HS:=ah hs;have bD:((kM (ps.take j)).length:Int)+pl.length<=1000000:=by omega
   have uZ:(0:Int)<=((kM (ps.take j)).length:Int)+pl.length:=by omega
   clear hs;generalize (kM (ps.take j)).length=s1 at*;go_wp2
   go_round
   case rel=>exact⟨j+1,by omega,by go_num,by rw[HS.out];go_num⟩
   case measure=>simp[intOf];omega
  ·obtain rfl:j=ps.length:=by omega
   have yh:(n:Int)<=ps.length:=by omega
   have hal:kM (ps.take ps.length)=kM ps:=by rw[List.take_of_length_le aK]
   rw[hal];have Vw:=aav (kM ps).length w ak;have HG:=ah Vw;clear Vw;have yI:=ah hal;clear hal;go_wp2_with fail
   refine HG.out.mono ?_;rintro e w2 ⟨v,rfl,Ij,bK⟩;go_wp2
   go_loopw [6,8,27] (λv _ i wr=>∃j:Nat,j<=ps.length/\i= .int .i64 j/\Below w.heap.size w2 wr/\LO gV 94 wr w.heap.size v (kM (ps.take j))) (λ_ _ i _=>n-(intOf i).toNat)
   case atStart=>exact⟨0,by omega,rfl,aU,Ij⟩
   case round=>
    obtain⟨j,hj,rfl,fJ,dh⟩:=hrel;have Bz:w.heap.size<=wr.heap.size:=acN bK.size fJ.size;have jw:=bK.trans fJ;by_cases hlt:j<ps.length
    ·have yt:(j:Int)<n:=by omega
     have c0:=(jw.cell (p:=⟨g,j,none⟩) BP).trans (HC.out j hlt);have BO:=HLS.out _ (acT hlt);have yT:=Oz ps j hlt;have h1:=qP (j+1);rw[yT,aag]at h1;unfold Sz at c0;have Yt:=ah yT;clear yT;generalize ps[j]=p at*;obtain⟨pA,pk,pl⟩:=p;simp only at c0 BO h1 Yt;have s1:LS gV wr wr.heap.size pA pl:=(BO.below jw).more Bz;generalize kM (ps.take j)=cj at*;have Rt:=dh.raw rfl (s:=2) rfl;have hgw:g<wr.heap.size:=by omega
     go_wp2_with (at_builtin;refine lJ rfl (.tmp 31) (.tmp 32) 50 rfl YR underlying50 rfl ay rfl Rt rfl s1 (gV.sH _) (by unfold maxLen;omega) ak Bz ?_;intro v' w3 eG jT iT)
     go_roundw
     case rel=>
      refine⟨j+1,by omega,by go_num,fJ.trans iT, ?_⟩;rw[Yt.out];unfold LO;rw[gV.kF,aag];exact eG
     case measure=>simp[intOf];omega
    ·obtain rfl:j=ps.length:=by omega
     go_wp2;go_ret;exact⟨_,rfl,by rw[HO.out, <-yI.out];exact dh,jw⟩
theorem WS(A:Option Addr)(c:Nat)(l:List bT)(w:World)(hv:A=none->l.length=0/\c=0)(hr:LS gV w w.heap.size A l)(hl:l.length<=1000000):Calls prog 190 #[.slice A l.length c] w (IC gV 94 l w):=by
 have hn:=λW a n c=>Lib.run_eql_slice_nil (P:=prog) W 50 94 a n c 0 0 underlying50;rcases A with _ | a
 ·obtain⟨h0,rfl⟩:=hv rfl;have qh:l= []:=acY h0;subst qh;clear hv h0;go_enter func190,ntmps190
  go_wp2;go_ret;exact⟨_,rfl,LO.nil_ _ _,aU⟩
 ·have uG:Reads (w.alloc (.cells #[] 94)) w.heap.size 2 (some a) l.length (gV.cells l):=Reads.alloc hr aK _;have dh:=World.ownsRow_lit (base:=w.heap.size) (e:=94) (size:=2) w #[] 0 aK ay rfl;clear hv;go_enter func190,ntmps190
  go_wp2_with (at_builtin;refine lJ rfl (.tmp 5) (.tmp 6) 50 rfl YR underlying50 rfl ay rfl dh rfl uG (gV.sH _) (by unfold maxLen;omega) ak aH ?_;intro v' w3 eG jT iT)
  go_ret;exact⟨_,rfl,by have h:=eG;simp only[ahi,ajX]at h;exact h,(aU.alloc aK _).trans iT⟩
theorem apF:∀a b:List UInt8,ajU a b=if agY a b then -1 else if agY b a then 1 else 0
 | [], []=>rfl
 | [],_::_=>rfl
 |_::_, []=>rfl
 |x::a,y::b=>by
  rw[ajU,apF a b];by_cases h1:x<y
  ·have h2:¬y<x:=by simp only[akc]at *;omega
   simp[agY,h1]
  ·by_cases h2:y<x
   ·have h3:¬ (x=y):=by rintro rfl;exact h1 h2
    simp[agY,h1,h2,h3]
   ·have h3:x=y:=by
     apply UInt8.toNat_inj.1;simp only[akc]at *;omega
    subst h3;simp[agY,h1]
def Fh(a b:ByteArray):Int:=ajU a.data.toList b.data.toList
theorem Qj(a b:ByteArray):Fh a b=if En.lt a b then -1 else if En.lt b a then 1 else 0:=by
 unfold Fh En.lt;rw[apF,Lib.toList_data,Lib.toList_data]
theorem YS{a b:ByteArray}(h:En.lt a b=true):Fh a b= -1:=by rw[Qj,h];rfl
theorem SA(a:ByteArray):Fh a a=0:=by rw[Qj,En.lt_irrefl];rfl
theorem YT{a b:ByteArray}(h:En.lt b a=true):Fh a b=1:=by rw[Qj,En.Fg h,h];rfl
theorem OA(x:bT)(k:ByteArray)(w:World):Calls prog 147 #[.agg #[.string x.1, .string x.2], .string k] w λe w'=>e= .returned (.int .i64 (Fh x.1 k))/\Below w.heap.size w w':=by
 have hc:=λW=>aS (ahy x.1 k W);change ∀W,Hid (Calls prog 148 #[.string x.1, .string k] W λe w'=>e= .returned (.int .i64 (Fh x.1 k))/\w'=W)at hc;generalize Fh x.1 k=q at*;go_enter func147,ntmps147
 go_wp2_with fail
 refine(hc _).out.mono ?_;rintro e w' ⟨rfl,rfl⟩;go_wp2;go_ret;exact⟨rfl,aU.alloc aK _⟩
def Lower(l:List bT)(k:ByteArray)(i:Nat):Prop:=(∀j (hj:j<l.length),j<i->En.lt l[j].1 k=true)/\(∀j (hj:j<l.length),i<=j->En.lt l[j].1 k=false)
def akf(l:List bT)(k:ByteArray)(w:World)(e:Ending)(w':World):Prop:=∃ (i:Nat) (fd:Bool),e= .returned (.tuple #[.int .i64 i, .bool fd])/\i<=l.length/\(fd=true->∃h:i<l.length,l[i].1=k)/\(fd=false->∀h:i<l.length,l[i].1≠k)/\(En.Ii l->Lower l k i)/\Below w.heap.size w w'
theorem adI{l:List bT}(h:En.Ii l){i j:Nat}(hij:i<=j)(hj:j<l.length){k:ByteArray}(hk:En.lt l[j].1 k=true):En.lt (l[i]'ak).1 k=true:=by
 by_cases e:i=j
 ·subst e;exact hk
 ·exact En.lt_trans (agH.1 h i j ak hj ak) hk
theorem alL{l:List bT}(h:En.Ii l){i j:Nat}(hij:i<=j)(hj:j<l.length){k:ByteArray}(hk:En.lt (l[i]'ak).1 k=false):En.lt l[j].1 k=false:=by
 cases hc:En.lt l[j].1 k with
 |false=>rfl
 |true=>rw[adI h hij hj hc]at hk;cases hk
theorem alM(A:Option Addr)(c:Nat)(l:List bT)(k:ByteArray)(w:World)(hr:LS gV w w.heap.size A l)(hl:l.length<=1000000):
  Calls prog 146 #[.slice A l.length c, .string k, .func (.func 147) #[] #[]] w (akf l k w):=by
 go_enter func146,ntmps146
 go_wp2
 go_loopg [9,10,11] l.length (λg s7 s8 _ wr=>∃lo hi:Nat,s7= .int .i64 lo/\s8= .int .i64 hi/\lo<=hi/\hi<=l.length/\hi-lo<=g/\Below w.heap.size w wr/\Hid (En.Ii l->(∀j (hj:j<l.length),j<lo->En.lt l[j].1 k=true)/\(∀j (hj:j<l.length),hi<=j->En.lt l[j].1 k=false)))
 case atStart=>exact⟨0,l.length,rfl,rfl,Nat.zero_le _,aK,by omega,aU,ah λ_=>⟨λj hj h=>absurd h ak,λj hj h=>absurd h ak⟩⟩
 case round=>
  obtain⟨lo,hi,rfl,rfl,Ik,pW,hg,fM,HI⟩:=hrel;by_cases hlt:lo<hi
  ·have hm:(lo+hi) / 2<l.length:=by omega
   obtain⟨b2,o2,rfl,bK,g0,g1⟩:=(hr.below fM).ent hm;have hc:=λW=>aS (OA l[(lo+hi) / 2] k W);have hsl:=λh i (vX:i<=(lo+hi) / 2)=>adI (l:=l) h vX hm (k:=k);have hsg:=λh j (hj':(lo+hi) / 2<=j) (hj:j<l.length)=>alL (l:=l) h hj' hj (k:=k);have HSL:=ah hsl;have HSG:=ah hsg;clear hsl hsg;generalize hx:l[(lo+hi) / 2]=x at*;have Ru:b2<wr.heap.size:=by have:=fM.size;omega
   cases EF:En.lt x.1 k with
   |true=>
    rw[YS EF]at hc;have HLX:=ah EF;clear EF;go_wp2_with fail
    refine(hc _).out.mono ?_;rintro e w2 ⟨rfl,b3⟩;go_wp2
    go_roundg (hi-((lo+hi) / 2+1))
    case measure=>omega
    case rel=>
     refine⟨(lo+hi) / 2+1,hi,by rw[show((lo:Int)+(hi:Int)) / 2+1=(((lo+hi) / 2+1:Nat):Int)by omega],rfl,by omega,pW,aK,fM.trans (b3.mono fM.size),ah λhs=>⟨λj hj MB=> ?_,(HI.out hs).2⟩⟩;exact HSL hs j ak HLX
   |false=>
    have hq:0<=Fh x.1 k:=by
     rcases En.GX EF with e | e
     ·rw[e,SA];omega
     ·rw[YT e];omega
    have HLX:=ah EF;clear EF;generalize Fh x.1 k=cq at*;go_wp2_with fail
    refine(hc _).out.mono ?_;rintro e w2 ⟨rfl,b3⟩;go_wp2
    go_roundg ((lo+hi) / 2-lo)
    case measure=>omega
    case rel=>
     refine⟨lo,(lo+hi) / 2,rfl,by rw[show((lo:Int)+(hi:Int)) / 2=(((lo+hi) / 2:Nat):Int)by omega],by omega,by omega,aK,fM.trans (b3.mono fM.size),ah λhs=>⟨(HI.out hs).1,λj hj MB=> ?_⟩⟩;exact HSG hs j MB hj (by rw[hx];exact HLX)
  ·obtain rfl:lo=hi:=by omega
   have asz:En.Ii l->Lower l k lo:=λhs=>HI.out hs;have Fj:=ah asz;clear asz HI;by_cases dM:lo<l.length
   ·obtain⟨b2,o2,rfl,bK,g0,g1⟩:=(hr.below fM).ent dM;have hc:=λW=>aS (OA l[lo] k W);have Ru:b2<wr.heap.size:=by have:=fM.size;omega
    obtain⟨x,hx⟩:=aJ (l[lo]);rw[<-hx]at hc g0 g1;have HX:=ah hx;clear hx;by_cases he:x.1=k
    ·have hq:Fh x.1 k=0:=by rw[he];exact SA k
     rw[hq]at hc;have HE:=ah he;clear hq he;go_wp2_with fail
     refine(hc _).out.mono ?_;rintro e w2 ⟨rfl,b3⟩;go_wp2;go_ret2;exact⟨lo,true,rfl,pW,λ_=>⟨dM,by rw[<-HX.out];exact HE⟩,λe=>(by cases e),Fj,fM.trans (b3.mono fM.size)⟩
    ·have hq:(Fh x.1 k==0)=false:=by
      rcases En.adE x.1 k with e | e | e
      ·rw[YS e];rfl
      ·exact absurd e he
      ·rw[YT e];rfl
     have HE:=ah he;clear he;generalize Fh x.1 k=cq at*;go_wp2_with fail
     refine(hc _).out.mono ?_;rintro e w2 ⟨rfl,b3⟩;go_wp2;go_ret2;exact⟨lo,false,rfl,pW,λe=>(by cases e),λ_ h=>by rw[<-HX.out];exact HE,Fj,fM.trans (b3.mono fM.size)⟩
   ·obtain rfl:lo=l.length:=by omega
    go_wp2;go_ret2;exact⟨l.length,false,rfl,pW,λe=>(by cases e),λ_ h=>absurd h ak,Fj,fM⟩
theorem JG(A:Option Addr)(c:Nat)(l:List bT)(k:ByteArray)(w:World)(hr:LS gV w w.heap.size A l)(hl:l.length<=1000000):
  Calls prog 116 #[.slice A l.length c, .string k] w (akf l k w):=by
 have hb:=aS (alM A c l k w hr hl);go_enter func116,ntmps116
 go_wp2_with fail
 refine hb.out.mono ?_;rintro e w2 ⟨i,fd,rfl,h1,h2,h3,h4,h5⟩;have H2:=ah h2;have H3:=ah h3;have H4:=ah h4;clear h2 h3 h4;go_wp2;go_ret2;exact⟨i,fd,rfl,h1,H2,H3,H4,h5⟩
end Go.Proofs.YtadnmegdbllaoaaGreatDoor
namespace En
structure Dl where
 key:Str
 old:Str
 new:Str
 was:Bool
 is:Bool
def nil:Str:=⟨#[]⟩
theorem get_none{l:List bT}{k:Str}(h:∀x∈l,x.1≠k):get l k=none:=by
 unfold get;rw[akZ.2]
 ·rfl
 ·intro x hx;rw[WQ (h x hx)];simp
def keys(l:List bT):List Str:=l.map (·.1)
def ap1(l:List bT)(d:Dl):List bT:=if right l then(if d.is then(if may d.key d.new then put l d.key d.new else l)else del l d.key)else l
def ap(l:List bT)(d:List Dl):List bT:=d.foldl ap1 l
theorem Jc(z:bT)(c:List bT):(ins z c).length=c.length+1:=by
 induction c with
 |nil=>rfl
 |cons u c ihc=>unfold ins;split<;>simp[ihc]
theorem YU(l:List bT)(k v:Str):(put l k v).length<=l.length+1:=by
 unfold put;rw[Jc];have:=ajA (λy:bT=> !eqs y.1 k) l;unfold del;omega
theorem Qk(l:List bT)(k:Str):(del l k).length<=l.length:=ajA _ _
end En
namespace Go.Proofs.YtadnmegdbllaoaaGreatDoor
open Go.RowKit Go.Shelf Tryz
structure SV{α:Type}(E:Enc α)(w:World)(A:Option Addr)(c:Nat)(l:List α):Prop where
 ls:LS E w w.heap.size A l
 le:l.length<=c
 nil_:A=none->c=0
theorem SV.up{α:Type}{E:Enc α}{w w':World}{A:Option Addr}{c:Nat}{l:List α}(h:SV E w A c l)(hb:Below w.heap.size w w'):SV E w' A c l:=⟨h.ls.up hb,h.le,h.nil_⟩
theorem LO.sv{α:Type}{E:Enc α}{ty:TypeId}{w:World}{base n:Nat}{A:Option Addr}{c:Nat}{l:List α}(h:LO E ty w base (.slice A n c) l):SV E w A c l:=by
 refine⟨h.ls, ?_, ?_⟩
 ·rcases h.2 with⟨e,h0⟩ | ⟨g,cap,cur,e,_,_,hn,_⟩
  ·omega
  ·injection e with _ _ e3;subst e3;exact hn
 ·rintro rfl;rcases h.2 with⟨e,h0⟩ | ⟨g,cap,cur,e,_⟩
  ·injection e
  ·injection e with e1;cases e1
def nK{α:Type}(E:Enc α)(o:List α)(w:World)(e:Ending)(w':World):Prop:=∃A c,e= .returned (.slice A o.length c)/\SV E w' A c o/\Below w.heap.size w w'
theorem nK.of_eq{α:Type}{E:Enc α}{o:List α}{w w':World}{A:Option Addr}{c n:Nat}(hn:o.length=n)(h:SV E w' A c o)(hb:Below w.heap.size w w'):nK E o w (.returned (.slice A n c)) w':=by subst hn;exact⟨A,c,rfl,h,hb⟩
theorem aaw(l:List bT)(i:Nat)(k v:ByteArray):((gV.cells l).set (i*2) (.string k)).set (i*2+1) (.string v)=gV.cells (l.set i (k,v)):=by
 induction l generalizing i with
 |nil=>simp[Enc.cells]
 |cons x l ih=>
  rw[gV.lK];have e:gV.enc x= [.string x.1, .string x.2]:=rfl;rw[e]
  cases i with
  |zero=>simp[Enc.lK,gV]
  |succ i=>
   have h:=ih i;rw[show(i+1)*2=i*2+1+1 by omega];simp only[agZ,ajX,List.set_cons_succ,h];rw[gV.lK];rfl
theorem JH(W:World):(sizeOf (prog.elem 50)).run prog W= .ok 2 W:=by kernel_rfl
theorem Ql:prog.underlying 50=some (.slice (prog.elem 50)):=by kernel_rfl
theorem adJ(A:Option Addr)(n c i:Nat)(hi:i<=n)(hc:n<=c)(W:World):(Instr.slice 50 (.slice A n c) none (some (.int .i64 i)) (some (.int .i64 i))).run prog W= .ok (.slice A i i) W:=by
 rw[run_slice_hm W 50 A n c Ql .i64 .i64 (i:Int) (i:Int) ak (Int.le_refl _) ak,JH];simp only[agc,sliced,agT,Nat.zero_mul,Nat.sub_zero]
 have e:(if i=0 then A else A.map (·.add 0))=A:=by
  split
  ·rfl
  ·cases A<;>rfl
 rw[e]
theorem SB(A:Option Addr)(n c i:Nat)(x:Int)(hx:x=i)(hi:i<=n)(W:World):(Instr.slice 50 (.slice A n c) (some (.int .i64 x)) none none).run prog W= .ok (.slice (if c=i then A else A.map (·.add (i*2))) (n-i) (c-i)) W:=by
 subst hx;rw[run_slice_l W 50 A n c Ql .i64 (i:Int) ak ak,JH];simp only[agc,sliced,agT]
theorem SV.cut{w:World}{A:Option Addr}{c:Nat}{l:List bT}(h:SV gV w A c l){i:Nat}(hi:i<=l.length):LS gV w w.heap.size (if c=i then A else A.map (·.add (i*2))) (l.drop i):=h.ls.cut hi h.le
theorem adK(A:Option Addr)(c:Nat)(l:List bT)(k v:ByteArray)(w:World)(hr:SV gV w A c l)(hl:l.length<=100000)(h:(En.right l&&En.may k v)=false):
  Calls prog 168 #[.slice A l.length c, .string k, .string v] w (nK gV l w):=by
 have hR:=aS (sJ A c l w hr.ls ak)
 cases gy:En.right l with
 |false=>
  rw[gy]at hR;clear gy h;go_enter func168,ntmps168
  go_wp2_with fail
  refine hR.out.mono ?_;rintro e w1 ⟨rfl,b1⟩;go_wp2;go_ret;exact⟨A,c,rfl,hr.up b1,b1⟩
 |true=>
  rw[gy]at hR h;have hm:En.may k v=false:=by simpa using h
  have hC:=λW=>aS (check_any k v W);rw[WR hm]at hC;clear gy h hm;go_enter func168,ntmps168
  go_wp2_with fail
  refine hR.out.mono ?_;rintro e w1 ⟨rfl,b1⟩;go_wp2_with fail
  refine(hC _).out.mono ?_;rintro e w' ⟨rfl,hw⟩;subst hw;go_wp2;go_ret;exact⟨A,c,rfl,hr.up b1,b1⟩
theorem adL(A:Option Addr)(c:Nat)(l:List bT)(k v:ByteArray)(w:World)(hr:SV gV w A c l)(hl:l.length<=100000)(gy:En.right l=true)(hm:En.may k v=true)(o:List bT)(ho:o=En.put l k v):
  Calls prog 168 #[.slice A l.length c, .string k, .string v] w (nK gV o w):=by
 have HO:=ah ho;clear ho;have hR:=aS (sJ A c l w hr.ls ak);rw[gy]at hR;have hs:=((En.fH l).1 gy).2;have HS:=ah hs;have hC:=λW=>aS (check_any k v W);rw[Jb hm]at hC;clear gy hm hs;have hF:=λW h=>aS (JG A c l k W h ak);go_enter func168,ntmps168
 go_wp2_with fail
 refine hR.out.mono ?_;rintro e w1 ⟨rfl,b1⟩;have MX:=hr.up b1;go_wp2_with fail
 refine(hC _).out.mono ?_;rintro e w' ⟨rfl,hw⟩;subst hw;go_wp2_with fail
 refine(hF _ MX.ls).out.mono ?_;rintro e w2 ⟨i,fd,rfl,hi,Rw,iL,mP,b2⟩;have uG:=MX.up b2;have bb:=b1.trans (b2.mono b1.size);have Fj:=ah (mP HS);clear hR hC hF MX hr b1 b2 mP;have hbX:=bb.alloc bb.size (.cells #[.string k, .string v] 94);have hbA:Below w2.heap.size w2 (w2.alloc (.cells #[.string k, .string v] 94)):=(aai _ w2).alloc aK _;have hrX:=uG.up hbA;have hBX:=aO.new w2 94 #[.string k, .string v]
 cases fd with
 |true=>
  obtain⟨Vu,IX⟩:=Rw rfl;have hp:=(En.Qi HS (k:=k) (v:=v) hi Fj.out.1 Fj.out.2).1 Vu IX;have HP:=ah hp.1;have hCl:=λW h=>aS (WS A c l W (λe=>by have h1:=uG.nil_ e;have:=uG.le;omega) h ak);have aCu:(i:Int)<l.length:=by omega
  clear iL IX hp Rw uG hbA;go_wp2_with fail
  refine(hCl _ hrX.ls).out.mono ?_;intro e w3 he;obtain⟨A3,c3,rfl,ho3,_,b3⟩:=he.open_;clear he hCl hrX;have ahz:=hBX.below b3 hBX.lt;have bb3:=hbX.trans (b3.mono hbX.size);obtain⟨g3,c4,hv3,Yu,asB⟩:=World.ownsRow.form ho3 ak;injection hv3 with e1 e2 e3;subst e1 e3;clear e2;obtain⟨g4,o4,e4,hg4,f0,f1⟩:=(ho3.ls).ent Vu;injection e4 with e4;injection e4 with e4 e5;subst e4 e5;rw[ahi]at f0 f1;obtain⟨cur,awR⟩:=I9 ho3 (r:=g3) rfl;have hgb:=(ada ho3 g3 rfl).1;have hBc:aO w3 g3 94 cur:=awR;have z0:=hBc.frozen (i*2);have z1:=hBc.frozen (i*2+1);have x0:=ahz.cell 0;have x1:=ahz.cell 1;have aCv:=ahz.lt;have bG:=(akR (akR ho3 (i*2) (.string k)).1 (i*2+1) (.string v)).1;rw[aaw]at bG
  have ajx:LO gV 94 ((w3.setCell ⟨g3,i*2,none⟩ (.string k)).setCell ⟨g3,i*2+1,none⟩ (.string v)) (w2.alloc (.cells #[.string k, .string v] 94)).heap.size (.slice (some ⟨g3,0,none⟩) l.length c3) (l.set i (k,v)):=by
   unfold LO;rw[List.length_set];exact bG
  have fM:=(bb3.setCell (p:=⟨g3,i*2,none⟩) (by show w.heap.size<=g3;have:=bb.size;simp at hgb;omega) (.string k)).setCell (p:=⟨g3,i*2+1,none⟩) (by show w.heap.size<=g3;have:=bb.size;simp at hgb;omega) (.string v);have hsl:(l.set i (k,v)).length=l.length:=List.length_set;rw[HP.out]at ajx hsl;clear ho3 b3 ahz hBX hBc bG HP;go_wp2;go_ret;exact nK.of_eq (by rw[HO.out];exact hsl) (by rw[HO.out];exact ajx.sv) fM
 |false=>
  have hp:=(En.Qi HS (k:=k) (v:=v) hi Fj.out.1 Fj.out.2).2 (iL rfl);have HP:=ah hp.1;have jr:=adJ A l.length c i hi uG.le;have mW:=SB A l.length c i (i:Int) rfl hi;have hcut:=uG.cut hi;have aCw:=uG.nil_;have hle:=uG.le;generalize (if c=i then A else A.map (·.add (i*2)))=A2 at*;clear iL Rw hp;have eH:(i:Int)<=l.length:=by omega
  have pO:(w2.alloc (.cells #[.string k, .string v] 94)).drew.cell? ⟨w2.heap.size,0,none⟩=some (.string k)/\(w2.alloc (.cells #[.string k, .string v] 94)).drew.cell? ⟨w2.heap.size,1,none⟩=some (.string v):=⟨hBX.cell 0,hBX.cell 1⟩;have hBY:=aO.new (w2.alloc (.cells #[.string k, .string v] 94)) 94 #[.string k, .string v];have hBZ:=aO.new ((w2.alloc (.cells #[.string k, .string v] 94)).alloc (.cells #[.string k, .string v] 94)) 50 #[.slice A i i, .slice (some ⟨w2.heap.size+1,0,none⟩) 1 1, .slice A2 (l.length-i) (c-i)];simp only[World.size_alloc]at hBY hBZ;have bZ:Below w2.heap.size w2 (((w2.alloc (.cells #[.string k, .string v] 94)).alloc (.cells #[.string k, .string v] 94)).alloc (.cells #[.slice A i i, .slice (some ⟨w2.heap.size+1,0,none⟩) 1 1, .slice A2 (l.length-i) (c-i)] 50)).drew:=((((aai _ w2).alloc aK _).alloc aH _).alloc (by simp;omega) _).drew
  have Vx:(((w2.alloc (.cells #[.string k, .string v] 94)).alloc (.cells #[.string k, .string v] 94)).alloc (.cells #[.slice A i i, .slice (some ⟨w2.heap.size+1,0,none⟩) 1 1, .slice A2 (l.length-i) (c-i)] 50)).drew.cell? ⟨w2.heap.size,0,none⟩=some (.string k)/\(((w2.alloc (.cells #[.string k, .string v] 94)).alloc (.cells #[.string k, .string v] 94)).alloc (.cells #[.slice A i i, .slice (some ⟨w2.heap.size+1,0,none⟩) 1 1, .slice A2 (l.length-i) (c-i)] 50)).drew.cell? ⟨w2.heap.size,1,none⟩=some (.string v):=
   ⟨((hBX.alloc _).alloc _).cell 0,((hBX.alloc _).alloc _).cell 1⟩
  have MZ:((w2.alloc (.cells #[.string k, .string v] 94)).alloc (.cells #[.string k, .string v] 94)).drew.cell? ⟨w2.heap.size,0,none⟩=some (.string k)/\((w2.alloc (.cells #[.string k, .string v] 94)).alloc (.cells #[.string k, .string v] 94)).drew.cell? ⟨w2.heap.size,1,none⟩=some (.string v):=
   ⟨(hBX.alloc _).cell 0,(hBX.alloc _).cell 1⟩
  have e1:(l.take i).length=i:=by rw[acR];omega
  have qP:kM [(A,i,l.take i),(some ⟨w2.heap.size+1,0,none⟩,1, [(k,v)]),(A2,c-i,l.drop i)]=l.take i++(k,v)::l.drop i:=by simp[kM]
  have hCc:=zi (w2.heap.size+1+1) 3 [(A,i,l.take i),(some ⟨w2.heap.size+1,0,none⟩,1, [(k,v)]),(A2,c-i,l.drop i)] rfl ak (((w2.alloc (.cells #[.string k, .string v] 94)).alloc (.cells #[.string k, .string v] 94)).alloc (.cells #[.slice A i i, .slice (some ⟨w2.heap.size+1,0,none⟩) 1 1, .slice A2 (l.length-i) (c-i)] 50)).drew
   (by
    show aO _ _ _ #[.slice A (l.take i).length i, .slice (some ⟨w2.heap.size+1,0,none⟩) 1 1, .slice A2 (l.drop i).length (c-i)]
    rw[e1,acP];exact hBZ)
   (by
    intro p hp;simp only[aah,aaj,or_false]at hp;rcases hp with rfl | rfl | rfl
    ·exact(uG.ls.y8 i).up bZ
    ·refine⟨by simp[Enc.cells,gV],λ_=>⟨_,rfl,by simp,λj u hu=> ?_⟩⟩;rw[Addr.add_lit,ahi];refine((hBY.alloc _).cell j).trans ?_;simpa[Enc.cells,gV]using hu
    ·exact hcut.up bZ)
   (by rw[qP,aag,acH,acP,e1];omega)
  rw[qP,HP.out]at hCc;have HCC:=ah hCc;clear hCc qP e1 hcut hBY hBZ uG hrX hBX;have Bz:w2.heap.size<(((w2.alloc (.cells #[.string k, .string v] 94)).alloc (.cells #[.string k, .string v] 94)).alloc (.cells #[.slice A i i, .slice (some ⟨w2.heap.size+1,0,none⟩) 1 1, .slice A2 (l.length-i) (c-i)] 50)).drew.heap.size:=by simp;omega
  go_wp2_with fail
  go_region_held3 (λW=>W.cell? ⟨w2.heap.size,0,none⟩=some (.string k)/\W.cell? ⟨w2.heap.size,1,none⟩=some (.string v)) (first | exact pO | exact MZ | exact Vx | exact⟨(b9.cell (p:=⟨w2.heap.size,0,none⟩) Bz).trans Vx.1,(b9.cell (p:=⟨w2.heap.size,1,none⟩) Bz).trans Vx.2⟩)
   (first | (go_at_call 165;refine HCC.out.mono ?_;intro e w9 he;obtain⟨A9,c9,rfl,ho9,_,b9⟩:=he.open_))
  all_goals
   go_wp2;go_ret;exact nK.of_eq (by rw[HO.out]) (by rw[HO.out];exact ho9.sv) (bb.trans ((bZ.trans (b9.mono bZ.size)).mono bb.size))
def aam(l:List bT)(k v:ByteArray):List bT:=if En.right l&&En.may k v then En.put l k v else l
def delS(l:List bT)(k:ByteArray):List bT:=if En.right l then En.del l k else l
theorem adM(A:Option Addr)(c:Nat)(l:List bT)(k v:ByteArray)(w:World)(hr:SV gV w A c l)(hl:l.length<=100000):
  Calls prog 168 #[.slice A l.length c, .string k, .string v] w (nK gV (aam l k v) w):=by
 cases h:En.right l&&En.may k v with
 |false=>
  have e:aam l k v=l:=by unfold aam;rw[h];rfl
  rw[e];exact adK A c l k v w hr hl h
 |true=>
  have h':En.right l=true/\En.may k v=true:=by simpa using h
  exact adL A c l k v w hr hl h'.1 h'.2 _ (by unfold aam;rw[h];rfl)
theorem adN(A:Option Addr)(c:Nat)(l:List bT)(k:ByteArray)(w:World)(hr:SV gV w A c l)(hl:l.length<=100000):
  Calls prog 134 #[.slice A l.length c, .string k] w (nK gV (delS l k) w):=by
 obtain⟨o,ho⟩:=aJ (delS l k);rw[<-ho];have HO:=ah ho;clear ho;have hF:=aS (JG A c l k w hr.ls ak);have hR:=λW h=>aS (sJ A c l W h ak)
 cases gy:En.right l with
 |false=>
  rw[gy]at hR;have N7:o=l:=by rw[HO.out];unfold delS;rw[gy];rfl
  have HOL:=ah N7;clear gy N7 HO;go_enter func134,ntmps134
  go_wp2_with fail
  refine hF.out.mono ?_;rintro e w1 ⟨i,fd,rfl,hi,Rw,iL,mP,b1⟩;have MX:=hr.up b1;clear Rw iL mP hF
  cases fd with
  |false=>
   go_wp2;go_ret;exact nK.of_eq (by rw[HOL.out]) (by rw[HOL.out];exact MX) b1
  |true=>
   go_wp2_with fail
   refine(hR _ MX.ls).out.mono ?_;rintro e w2 ⟨rfl,b2⟩;go_wp2;go_ret;exact nK.of_eq (by rw[HOL.out]) (by rw[HOL.out];exact MX.up b2) (b1.trans (b2.mono b1.size))
 |true=>
  rw[gy]at hR;have hs:=((En.fH l).1 gy).2;have N7:o=En.del l k:=by rw[HO.out];unfold delS;rw[gy];rfl
  have HOL:=ah N7;have HS:=ah hs;clear gy N7 HO hs;go_enter func134,ntmps134
  go_wp2_with fail
  refine hF.out.mono ?_;rintro e w1 ⟨i,fd,rfl,hi,Rw,iL,mP,b1⟩;have MX:=hr.up b1;have Fj:=ah (mP HS);clear mP hF
  cases fd with
  |false=>
   have hp:=(En.Qi HS (k:=k) (v:=k) hi Fj.out.1 Fj.out.2).2 (iL rfl);have HP:=ah hp.2;clear hp Rw iL;go_wp2;go_ret;exact nK.of_eq (by rw[HOL.out,HP.out]) (by rw[HOL.out,HP.out];exact MX) b1
  |true=>
   obtain⟨Vu,IX⟩:=Rw rfl;have hp:=(En.Qi HS (k:=k) (v:=k) hi Fj.out.1 Fj.out.2).1 Vu IX;have HP:=ah hp.2;clear iL IX hp Rw;go_wp2_with fail
   refine(hR _ MX.ls).out.mono ?_;rintro e w2 ⟨rfl,b2⟩;have uG:=MX.up b2;have bb:=b1.trans (b2.mono b1.size);clear hR MX hr b1 b2;have jr:=adJ A l.length c i hi uG.le;have mW:=SB A l.length c (i+1) ((i:Int)+1) ak ak;have hcut:=uG.cut (i:=i+1) ak;have hle:=uG.le;generalize (if c=i+1 then A else A.map (·.add ((i+1)*2)))=A2 at*;have eH:(i:Int)+1<=l.length:=by omega
   have uw:IntKind.i64.wrap ((i:Int)+1)=(i:Int)+1:=IntWalk.i64_in _ ak;have hBZ:=aO.new w2 50 #[.slice A i i, .slice A2 (l.length-(i+1)) (c-(i+1))];have bZ:Below w2.heap.size w2 (w2.alloc (.cells #[.slice A i i, .slice A2 (l.length-(i+1)) (c-(i+1))] 50)).drew:=((aai _ w2).alloc aK _).drew;have e1:(l.take i).length=i:=by rw[acR];omega
   have qP:kM [(A,i,l.take i),(A2,c-(i+1),l.drop (i+1))]=l.take i++l.drop (i+1):=by simp[kM]
   have hCc:=zi w2.heap.size 2 [(A,i,l.take i),(A2,c-(i+1),l.drop (i+1))] rfl ak (w2.alloc (.cells #[.slice A i i, .slice A2 (l.length-(i+1)) (c-(i+1))] 50)).drew
    (by
     show aO _ _ _ #[.slice A (l.take i).length i, .slice A2 (l.drop (i+1)).length (c-(i+1))]
     rw[e1,acP];exact hBZ)
    (by
     intro p hp;simp only[aah,aaj,or_false]at hp;rcases hp with rfl | rfl
     ·exact(uG.ls.y8 i).up bZ
     ·exact hcut.up bZ)
    (by rw[qP,aag,acP,e1];omega)
   rw[qP,HP.out]at hCc;have HCC:=ah hCc;clear hCc qP e1 hcut hBZ uG;go_wp2_with fail
   go_region_held3 (λ_=>True) (trivial)
    (first | (go_at_call 165;refine HCC.out.mono ?_;intro e w9 he;obtain⟨A9,c9,rfl,ho9,_,b9⟩:=he.open_))
   all_goals
    go_wp2;go_ret;exact nK.of_eq (by rw[HOL.out]) (by rw[HOL.out];exact ho9.sv) (bb.trans ((bZ.trans (b9.mono bZ.size)).mono bb.size))
end Go.Proofs.YtadnmegdbllaoaaGreatDoor
namespace Go.Proofs.YtadnmegdbllaoaaGreatDoor
open Go.RowKit Tryz
def alN(r:Bool):Int:=if r then 0 else 1
end Go.Proofs.YtadnmegdbllaoaaGreatDoor
namespace Nd
open En
structure Node where
 leaf:Bool
 ents:List bT
 kids:List Int
 keys:List Str
def bU(l:List bT):Node:=⟨true,l, [], []⟩
def aN(kids:List Int)(keys:List Str):Node:=⟨false, [],kids,keys⟩
def lM:Option Str->List Str->Bool
 |_, []=>true
 |p,k::l=>may k ⟨#[]⟩&&ahead p k&&lM (some k) l
def qR(i:Int):Bool:=decide (2<=i)&&decide (i<=4294967295)
def right(n:Node):Bool:=
 if n.leaf then En.right n.ents&&decide (n.kids.length+n.keys.length=0)
 else decide (n.ents.length=0)&&decide (n.keys.length+1=n.kids.length)&&n.kids.all qR&&lM none n.keys
def Jp(x:bT):Nat:=2+x.1.size+x.2.size
def bP(l:List bT):Nat:=(l.map Jp).sum
def ksz(k:Str):Nat:=5+k.size
def bH(l:List Str):Nat:=(l.map ksz).sum
def size(n:Node):Nat:=if n.leaf then bP n.ents else 4+bH n.keys
def fits(n:Node):Bool:=right n&&decide (size n<=240)
def kind(n:Node):Nat:=if n.leaf then 1 else 2
theorem jm{l:List bT}{kids:List Int}{keys:List Str} :right ⟨true,l,kids,keys⟩=true ↔ En.right l=true/\kids= []/\keys= []:=by
 unfold right;simp only[if_true,acJ,decide_eq_true_eq];constructor
 ·rintro⟨h1,h2⟩;exact⟨h1,acY (by omega),acY (by omega)⟩
 ·rintro⟨h1,rfl,rfl⟩;exact⟨h1,rfl⟩
theorem dV{l:List bT}{kids:List Int}{keys:List Str} :right ⟨false,l,kids,keys⟩=true ↔ l= []/\keys.length+1=kids.length/\(∀i∈kids,2<=i/\i<=4294967295)/\lM none keys=true:=by
 unfold right;simp only[Bool.false_eq_true,if_false,acJ,decide_eq_true_eq,List.all_eq_true];constructor
 ·rintro⟨⟨⟨h1,h2⟩,h3⟩,h4⟩;exact⟨acY h1,h2,λi hi=>by have:=h3 i hi;unfold qR at this;simpa using this,h4⟩
 ·rintro⟨rfl,h2,h3,h4⟩;exact⟨⟨⟨rfl,h2⟩,λi hi=>by have:=h3 i hi;unfold qR;simpa using this⟩,h4⟩
def CJ(l:List Str):Prop:=l.Pairwise λx y=>lt x y=true
theorem DR:∀ (l:List Str) (p:Option Str),lM p l=true ↔ (∀x∈l,may x ⟨#[]⟩=true)/\(∀y,p=some y->∀x∈l,lt y x=true)/\CJ l
 | [],p=>by simp[lM,CJ]
 |x::l,p=>by
  rw[lM,acJ,acJ,DR l (some x)];unfold CJ;rw[agz];constructor
  ·rintro⟨⟨h1,h2⟩,h3,h4,h5⟩;refine⟨λy hy=> ?_,λy hy z hz=> ?_,λy hy=>h4 _ rfl y hy,h5⟩
   ·rcases aah.1 hy with rfl | hy
    ·exact h1
    ·exact h3 y hy
   ·subst hy;unfold ahead at h2;simp only at h2;rcases aah.1 hz with rfl | hz
    ·exact h2
    ·exact lt_trans h2 (h4 _ rfl z hz)
  ·rintro⟨h1,h2,h3,h4⟩;refine⟨⟨h1 x aae, ?_⟩,λy hy=>h1 y (acF _ hy),λy hy z hz=> ?_,h4⟩
   ·cases p with
    |none=>rfl
    |some y=>exact h2 y rfl x aae
   ·injection hy with hy;subst hy;exact h3 z hz
theorem oK(l:List Str):lM none l=true ↔ (∀x∈l,may x ⟨#[]⟩=true)/\CJ l:=by
 rw[DR];exact⟨λh=>⟨h.1,h.2.2⟩,λh=>⟨h.1,(λy hy=>by cases hy),h.2⟩⟩
def GY(l:List Str)(k:Nat):Option Str:=if k=0 then none else l[k-1]?
theorem ahA(l:List Str)(k:Nat)(hk:k<l.length):lM (GY l k) (l.drop k)=(may l[k] ⟨#[]⟩&&ahead (GY l k) l[k]&&lM (GY l (k+1)) (l.drop (k+1))):=by
 rw[ade hk,lM];have e:GY l (k+1)=some l[k]:=by unfold GY;rw[if_neg (by omega)];simp[hk]
 rw[e]
theorem WT(l:List Str)(k:Nat)(hk:k<l.length)(h0:0<k):GY l k=some (l[k-1]'(by omega)):=by
 unfold GY;rw[if_neg (by omega)];simp[show k-1<l.length by omega]
def text(s:Str):List UInt8:=ag5 s.size::s.data.toList
def enc1(x:bT):List UInt8:=text x.1++text x.2
def rH(l:List bT):List UInt8:=l.flatMap enc1
def YV(x:Str × Int):List UInt8:=text x.1++Cp.be 4 x.2.toNat
def wB(keys:List Str)(kids:List Int):List UInt8:=(keys.zip kids).flatMap YV
def enc(n:Node):List UInt8:=if n.leaf then rH n.ents else Cp.be 4 (n.kids.headD 0).toNat++wB n.keys n.kids.tail
theorem jZ(s:Str):(text s).length=1+s.size:=by
 unfold text;rw[acH,ag2,aj2];omega
theorem SC(x:bT):(enc1 x).length=Jp x:=by
 unfold enc1 Jp;rw[aag,jZ,jZ];omega
theorem zk(l:List bT):(rH l).length=bP l:=by
 induction l with
 |nil=>rfl
 |cons x l ih=>unfold rH bP at *;rw[ahf,aag,ih,SC,acX,aj7]
theorem GZ:∀ (keys:List Str) (kids:List Int),keys.length=kids.length->(wB keys kids).length=bH keys
 | [],_,_=>rfl
 |k::ks,i::is,h=>by
  have ih:=GZ ks is (by simpa using h);unfold wB bH YV at*;rw[List.zip_cons_cons,ahf,aag,ih,acX,aj7,aag,jZ,Cp.fD];simp only[show ksz k=5+k.size from rfl];omega
 |_::_, [],h=>by simp at h
theorem WU{n:Node}(h:right n=true):(enc n).length=size n:=by
 obtain⟨leaf,ents,kids,keys⟩:=n
 cases leaf with
 |true=>unfold enc size;simp[zk]
 |false=>
  obtain⟨_,h2,_,_⟩:=dV.1 h;unfold enc size;simp only[Bool.false_eq_true,if_false,aag,Cp.fD];rw[GZ _ _ (by rw[List.length_tail];omega)]
theorem oL(a b:List bT):bP (a++b)=bP a+bP b:=by unfold bP;rw[adt,List.sum_append]
theorem fB(a b:List Str):bH (a++b)=bH a+bH b:=by unfold bH;rw[adt,List.sum_append]
theorem gW(x:bT)(l:List bT):bP (x::l)=Jp x+bP l:=by unfold bP;rw[acX,aj7]
theorem jQ(x:Str)(l:List Str):bH (x::l)=ksz x+bH l:=by unfold bH;rw[acX,aj7]
theorem yC(l:List bT)(k:Nat)(hk:k<l.length):bP (l.take (k+1))=bP (l.take k)+Jp l[k]:=by
 rw[acO hk,oL];simp[bP]
theorem IE(l:List Str)(k:Nat)(hk:k<l.length):bH (l.take (k+1))=bH (l.take k)+ksz l[k]:=by
 rw[acO hk,fB];simp[bH]
theorem mD(l:List bT):2*l.length<=bP l:=by
 induction l with
 |nil=>simp[bP]
 |cons x l ih=>rw[gW,acH];unfold Jp;omega
theorem Ak(l:List Str):5*l.length<=bH l:=by
 induction l with
 |nil=>simp[bH]
 |cons x l ih=>rw[jQ,acH];unfold ksz;omega
theorem aax{l:List bT}(h:∀x∈l,may x.1 x.2=true):bP l<=58*l.length:=by
 induction l with
 |nil=>simp[bP]
 |cons x l ih=>
  rw[gW,acH];have:=ih λy hy=>h y (acF _ hy);have hm:=h x aae;unfold may at hm;simp only[acJ,decide_eq_true_eq]at hm;unfold Jp;omega
theorem Fp{l:List Str}(h:∀x∈l,may x ⟨#[]⟩=true):bH l<=21*l.length:=by
 induction l with
 |nil=>simp[bH]
 |cons x l ih=>
  rw[jQ,acH];have:=ih λy hy=>h y (acF _ hy);have hm:=h x aae;unfold may at hm;simp only[acJ,decide_eq_true_eq]at hm;unfold ksz;omega
def child:List Str->Str->Nat
 | [],_=>0
 |k::l,key=>if lt key k then 0 else child l key+1
theorem DT(l:List Str)(key:Str):child l key<=l.length:=by
 induction l with
 |nil=>simp[child]
 |cons k l ih=>unfold child;split;simp;simp;exact ih
theorem aay{l:List Str}(hs:CJ l){key:Str}{i:Nat}(hi:i<=l.length)(h1:∀j (hj:j<l.length),j<i->lt key l[j]=false)(h2:∀j (hj:j<l.length),i<=j->lt key l[j]=true):child l key=i:=by
 induction l generalizing i with
 |nil=>simp at hi;subst hi;rfl
 |cons k l ih=>
  unfold child
  cases i with
  |zero=>
   have:=h2 0 (by simp) (Nat.le_refl _);simp only[List.getElem_cons_zero]at this;rw[if_pos this]
  |succ i=>
   have:=h1 0 (by simp) (by omega);simp only[List.getElem_cons_zero]at this;rw[if_neg (by rw[this];simp)];have mW:CJ l:=(agz.1 hs).2;rw[ih mW (i:=i) (by simpa using hi) (λj hj qg=>by have:=h1 (j+1) (by simpa using hj) (by omega);simpa using this) (λj hj qg=>by have:=h2 (j+1) (by simpa using hj) (by omega);simpa using this)]
def qU(all len:Nat):Nat->Nat->List bT->Nat
 |_,_, []=>0
 |i,n,x::r=>if 0<i/\(all<=2*n\/i+1=len)then i else qU all len (i+1) (n+Jp x) r
def half(l:List bT):Nat:=qU (bP l) l.length 0 0 l
def split(n:Node):Option (Node × Str × Node):=
 if right n=false\/(n.ents.length<2/\n.kids.length<2)then none
 else if n.leaf then match n.ents[half n.ents]? with
  |none=>none
  |some x=>some (bU (n.ents.take (half n.ents)),x.1,bU (n.ents.drop (half n.ents)))
 else match n.keys[n.kids.length / 2-1]? with
  |none=>none
  |some k=>some (aN (n.kids.take (n.kids.length / 2)) (n.keys.take (n.kids.length / 2-1)),k,aN (n.kids.drop (n.kids.length / 2)) (n.keys.drop (n.kids.length / 2)))
def join(a:Node)(key:Str)(b:Node):Node:=
 if a.leaf != b.leaf then a
 else if a.leaf then⟨true,a.ents++b.ents,a.kids++b.kids,a.keys++b.keys⟩
 else⟨false,a.ents++b.ents,a.kids++b.kids,a.keys++ [key]++b.keys⟩
def swap(n:Node)(fr iF:Nat)(kids:List Int)(keys:List Str):Node:=
 if n.leaf=true\/n.kids.length<iF\/iF<=fr\/keys.length≠kids.length-1 then n
 else aN (n.kids.take fr++kids++n.kids.drop iF)
  (n.keys.take (if kids.length=0/\0<fr then fr-1 else fr)++keys++n.keys.drop (if kids.length=0/\fr=0 then min iF n.keys.length else iF-1))
end Nd
namespace Go.Proofs.YtadnmegdbllaoaaGreatDoor
open Go.RowKit Go.Shelf Tryz
theorem YW(g:Nat)(r:Cp.Rd)(w:World)(h:aO w g 236 (bC r)):Calls prog 175 #[.pointer (some ⟨g,0,none⟩)] w λe w'=>e= .returned (.int .i64 r.err)/\w'=w:=by
 have h1:w.cell? ⟨g,1,none⟩=some (.int .i64 r.err):=h.cell 1;have hl:=h.lt;go_enter func175,ntmps175
 go_wp2;go_ret;exact⟨rfl,rfl⟩
theorem aaz(s:ByteArray)(hs:s.size<=255)(w:World):Calls prog 232 #[.string s] w λe w'=>e= .returned (.tuple #[.string ⟨(Nd.text s).toArray⟩, .int .i64 0])/\Below w.heap.size w w':=by
 have hc:=λW x=>WH (P:=prog) (src:=150) (dst:=9) W x 5 1 underlying150 underlying5 underlying9
 have hx:(⟨[ag5 ((s.size:Int)).toNat].toArray⟩:ByteArray)++s=⟨(Nd.text s).toArray⟩:=by
  rw[agT];apply ahm;simp[Nd.text]
 have HX:=ah hx;clear hx;go_enter func232,ntmps232
 go_wp2;go_ret2;exact⟨by rw[<-HX.out];rfl,aU.alloc aK _⟩
theorem adO(A:Option Addr)(c:Nat)(l:List bT)(k:ByteArray)(w:World)(hr:LS gV w w.heap.size A l)(hl:l.length<=100000)(gy:En.right l=true):
  Calls prog 125 #[.slice A l.length c, .string k] w λe w'=>e= .returned (match En.get l k with | some v=> .tuple #[.string v, .bool true] | none=> .tuple #[.string ⟨#[]⟩, .bool false])/\Below w.heap.size w w':=by
 have hf:=aS (JG A c l k w hr ak);have hRt:=λW (h:LS gV W W.heap.size A l)=>sJ A c l W h ak;rw[gy]at hRt;have hs:=((En.fH l).1 gy).2;have HS:=ah hs;have HRT:=ah hRt;obtain⟨o,ho⟩:=aJ (En.get l k);rw[<-ho];have HO:=ah ho;clear hs hRt ho gy;go_enter func125,ntmps125
 go_wp2_with fail
 refine hf.out.mono ?_;rintro e w2 ⟨i,fd,rfl,h1,h2,h3,h4,h5⟩
 cases fd with
 |true=>
  obtain⟨hi,hk⟩:=h2 rfl;have uG:=hr.up h5
  have hg:o=some l[i].2:=by
   rw[HO.out]
   have hf':l.find? (λx=>En.eqs x.1 k)=some l[i]:=by
    refine List.find?_eq_some_iff_getElem.2 ⟨En.DL.2 hk,i,hi,rfl,λj hj=> ?_⟩;rw[Bool.not_eq_true',En.Ah];have:=agH.1 HS j i ak hi hj;rw[hk]at this;exact En.JE this
   unfold En.get;rw[hf'];rfl
  obtain⟨v,hv⟩:=aJ (l[i].2);rw[<-hv]at hg;subst hg;have Yv:=HRT.out w2 uG;clear h2 h3 h4 HO;go_wp2_with fail
  refine aac Yv ?_;rintro e w3 ⟨rfl,h6⟩;obtain⟨b,off,rfl,hb,_,g1⟩:=(uG.up h6).ent hi;rw[<-hv]at g1;clear hv;go_wp2;go_ret2;exact⟨rfl,h5.trans (h6.mono h5.size)⟩
 |false=>
  have hn:o=none:=by
   rw[HO.out]
   have hf':l.find? (λx=>En.eqs x.1 k)=none:=by
    refine akZ.2 λx hx=> ?_;simp only[En.DL];intro e;obtain⟨j,hj,rfl⟩:=List.getElem_of_mem hx;have hl:=h4 HS;by_cases qg:j<i
    ·have:=hl.1 j hj qg;rw[e,En.lt_irrefl]at this;cases this
    ·by_cases hje:j=i
     ·subst hje;exact h3 rfl hj e
     ·have h6:=agH.1 HS i j ak hj ak;have h7:=hl.2 i ak aK;rw[e]at h6;rw[h7]at h6;cases h6
   unfold En.get;rw[hf'];rfl
  subst hn;clear h2 h3 h4 HO;go_wp2;go_ret2;exact⟨rfl,h5⟩
theorem adP{α:Type}(E:Enc α)(W:World)(ty:TypeId)(l:List α)(cs:Array Value)(hc:cs.toList=E.cells l)(B:Nat)(hB:W.heap.size<B):LS E (W.alloc (.cells cs ty)) B (some ⟨W.heap.size,0,none⟩) l:=by
 refine⟨by rw[Enc.oJ],λ_=>⟨_,rfl,by simpa using hB,λj u hu=> ?_⟩⟩;rw[Addr.add_lit,ahi,(aO.new W ty _).cell j, <-Array.getElem?_toList,hc];exact hu
theorem BH(l:List bT)(k:Nat):Nd.bP (l.take k)<=Nd.bP l:=by
 have:=Nd.oL (l.take k) (l.drop k);rw[ac1]at this;omega
theorem adQ(x:bT):Nd.Jp x=2+x.1.size+x.2.size:=rfl
theorem Fq(A:Option Addr)(c:Nat)(l:List bT)(w:World)(hr:LS gV w w.heap.size A l)(hl:l.length<=100000)(hs:Nd.bP l<=1000000000):
  Calls prog 214 #[.slice A l.length c] w λe w'=>e= .returned (.int .i64 (Nd.bP l:Nat))/\Below w.heap.size w w':=by
 have hT:=ah (λk=>BH l k);obtain⟨o,ho⟩:=aJ (Nd.bP l);rw[<-ho];rw[<-ho]at hs;have HO:=ah ho;clear ho;go_enter func214,ntmps214
 go_wp2
 go_loopw [3,8] (λn i wr=>∃ (k m:Nat),k<=l.length/\i= .int .i64 k/\n= .int .i64 m/\Hid (m=Nd.bP (l.take k))/\Below w.heap.size w wr) (λ_ i _=>l.length-(intOf i).toNat)
 case atStart=>exact⟨0,0,by omega,rfl,rfl,ah (by simp[Nd.bP]),aU⟩
 case round=>
  obtain⟨k,m,hk,rfl,rfl,HM,fM⟩:=hrel;by_cases hlt:k<l.length
  ·obtain⟨b2,o2,rfl,bK,g0,g1⟩:=(hr.below fM).ent hlt;have h1:=Nd.yC l k hlt;have h2:=hT.out (k+1);rw[<-HO.out,h1, <-HM.out,adQ]at h2;have H1:=ah h1;clear h1;obtain⟨x,hx⟩:=aJ (l[k]);rw[<-hx]at g0 g1 h2;obtain⟨x1,x2⟩:=x;have HX:=ah hx;clear hx;simp only at g0 g1 h2;have Ru:b2<wr.heap.size:=by have:=fM.size;omega
   have q1:0<=(x1.size:Int)/\0<=(x2.size:Int):=⟨by omega,by omega⟩;go_wp2
   go_roundw
   case rel=>
    refine⟨k+1,m+(2+x1.size+x2.size),by omega,by go_num, ?_,ah ?_,fM.alloc fM.size _⟩
    ·go_num
    ·rw[H1.out, <-HM.out, <-HX.out,adQ]
   case measure=>simp[intOf];omega
  ·obtain rfl:k=l.length:=by omega
   go_wp2;go_ret;refine⟨?_,fM⟩;have hm:m=o:=by rw[HM.out,HO.out,ahe]
   subst hm;rfl
theorem ahB(all len:Nat)(i n:Nat)(l:List bT)(k:Nat)(hk:k<l.length):Nd.qU all len i n (l.drop k)=if 0<i/\(all<=2*n\/i+1=len)then i else Nd.qU all len (i+1) (n+Nd.Jp l[k]) (l.drop (k+1)):=by
 rw[ade hk,Nd.qU]
theorem aaA(A:Option Addr)(c:Nat)(l:List bT)(w:World)(hr:LS gV w w.heap.size A l)(hl:l.length<=100000)(hs:Nd.bP l<=1000000000):
  Calls prog 210 #[.slice A l.length c] w λe w'=>e= .returned (.int .i64 (Nd.half l:Nat))/\Below w.heap.size w w':=by
 have hT:=ah (λk=>BH l k);have hS:=aS (Fq A c l w hr hl hs);have HS:=ah (λW A c x h1 h2 h3=>Fq A c x W h1 h2 h3);obtain⟨o,ho⟩:=aJ (Nd.half l);rw[<-ho];have HO:=ah ho;clear ho;obtain⟨all,au⟩:=aJ (Nd.bP l);rw[<-au]at hs hS;have SE:=ah au;clear au;go_enter func210,ntmps210
 go_wp2_with fail
 refine hS.out.mono ?_;rintro e w1 ⟨rfl,b1⟩;have MX:=hr.up b1;clear hS;go_wp2
 go_loopw [4,11] (λn i wr=>∃ (k m:Nat),k<=l.length/\i= .int .i64 k/\n= .int .i64 m/\Hid (m=Nd.bP (l.take k))/\Hid (Nd.half l=Nd.qU all l.length k m (l.drop k))/\Below w1.heap.size w1 wr) (λ_ i _=>l.length-(intOf i).toNat)
 case atStart=>exact⟨0,0,by omega,rfl,rfl,ah (by simp[Nd.bP]),ah (by rw[SE.out];rfl),aU⟩
 case round=>
  obtain⟨k,m,hk,rfl,rfl,HM,HH,fM⟩:=hrel;by_cases hlt:k<l.length
  ·obtain⟨b2,o2,rfl,bK,g0,g1⟩:=(MX.below fM).ent hlt;have h1:=Nd.yC l k hlt;have h2:=hT.out (k+1);have Yr:=ah (ahB all l.length k m l k hlt);rw[<-SE.out,h1, <-HM.out]at h2;have H1:=ah h1;clear h1;obtain⟨x,hx⟩:=aJ (l[k]);rw[<-hx]at g0 g1 h2;have HX:=ah hx;clear hx;have Ru:b2<wr.heap.size:=by have:=fM.size;omega
   have Dq:=HS.out ((wr.alloc (.cells #[.string x.1, .string x.2] 94)).alloc (.cells #[.string x.1, .string x.2] 94)) (some ⟨wr.heap.size+1,0,none⟩) 1 [x];have apG:=ah Dq;clear Dq;by_cases MC:0<k/\(all<=2*m\/k+1=l.length)
   ·have hc:=Yr.out;rw[if_pos MC]at hc;have HC:=ah hc;clear hc;obtain⟨s1,s2⟩:=MC;have d1:decide (0<(k:Int))=true:=by simp;omega
    by_cases s3:all<=2*m
    ·have d2:decide ((all:Int)<=2*m)=true:=by simp;omega
     clear s2 s3;go_wp2;go_ret;exact⟨by rw[HO.out,HH.out,HC.out];rfl,b1.trans ((fM.alloc fM.size _).mono b1.size)⟩
    ·have d2:decide ((all:Int)<=2*m)=false:=by simp;omega
     have s4:k+1=l.length:=by omega
     have d3:((k:Int)==l.length-1)=true:=by rw[beq_iff_eq];omega
     clear s2 s3 s4;go_wp2;go_ret;exact⟨by rw[HO.out,HH.out,HC.out];rfl,b1.trans ((fM.alloc fM.size _).mono b1.size)⟩
   ·have hc:=Yr.out;rw[if_neg MC]at hc;have HC:=ah hc;clear hc;have adR:=fM.alloc fM.size (.cells #[.string x.1, .string x.2] 94);have hes:Nd.bP [x]=Nd.Jp x:=by simp[Nd.bP]
    have hz:Nd.Jp x<=1000000000:=by omega
    have yJ:Calls prog 214 #[.slice (some ⟨wr.heap.size+1,0,none⟩) 1 1] ((wr.alloc (.cells #[.string x.1, .string x.2] 94)).alloc (.cells #[.string x.1, .string x.2] 94)) λe w'=>e= .returned (.int .i64 (Nd.Jp x:Nat))/\Below (wr.heap.size+2) ((wr.alloc (.cells #[.string x.1, .string x.2] 94)).alloc (.cells #[.string x.1, .string x.2] 94)) w':=by
     have:=apG.out (by have:=adP gV (wr.alloc (.cells #[.string x.1, .string x.2] 94)) 94 [x] #[.string x.1, .string x.2] (by rw[Enc.cells_one];rfl) (wr.heap.size+2) aH;simpa using this) aH (by rw[hes];exact hz);rw[hes]at this;simpa using this
    have akg:=ah yJ;have akh:∀w3,Below (wr.heap.size+2) ((wr.alloc (.cells #[.string x.1, .string x.2] 94)).alloc (.cells #[.string x.1, .string x.2] 94)) w3->Below w1.heap.size w1 w3:=λw3 h=>(adR.alloc (by have:=adR.size;omega) _).trans (h.mono (by have:=fM.size;simp;omega));have apH:=ah akh;have yj:m+Nd.Jp x<=1000000000:=by omega
    have HZ:Hid (Nd.Jp x=Nd.Jp l[k]):=ah (by rw[HX.out]);clear yJ akh hes apG h2;generalize Nd.Jp x=z at*;by_cases s1:0<k
    ·have d1:decide (0<(k:Int))=true:=by simp;omega
     have s2:¬all<=2*m:=λh=>MC ⟨s1, .inl h⟩;have s3:¬k+1=l.length:=λh=>MC ⟨s1, .inr h⟩;have d2:decide ((all:Int)<=2*m)=false:=by simp;omega
     have d3:((k:Int)==l.length-1)=false:=by rw[beq_eq_false_iff_ne];omega
     clear s2 s3 MC;go_wp2_with fail
     refine akg.out.mono ?_;rintro e w3 ⟨rfl,b3⟩;have iC:=apH.out w3 b3;clear b3;go_wp2
     go_roundw
     case rel=>exact⟨k+1,m+z,by omega,by go_num,by go_num,ah (by rw[H1.out, <-HM.out,HZ.out]),ah (by rw[HH.out,HC.out,HZ.out]),iC⟩
     case measure=>simp[intOf];omega
    ·have d1:decide (0<(k:Int))=false:=by simp;omega
     obtain rfl:k=0:=by omega
     simp only[Nat.zero_mul,Nat.add_zero]at g0 g1;clear s1 MC;go_wp2_with fail
     refine akg.out.mono ?_;rintro e w3 ⟨rfl,b3⟩;have iC:=apH.out w3 b3;clear b3;go_wp2
     go_roundw
     case rel=>exact⟨0+1,m+z,by omega,by go_num,by go_num,ah (by rw[H1.out, <-HM.out,HZ.out]),ah (by rw[HH.out,HC.out,HZ.out]),iC⟩
     case measure=>simp[intOf];omega
  ·obtain rfl:k=l.length:=by omega
   go_wp2;go_ret;refine⟨?_,b1.trans (fM.mono b1.size)⟩;rw[HO.out,HH.out,List.drop_of_length_le aK];rfl
end Go.Proofs.YtadnmegdbllaoaaGreatDoor
namespace Nd
open En
def jC(r:Cp.Rd):List UInt8 × Cp.Rd:=(r.int 1).2.bytes ((r.int 1).1:Nat)
def str(l:List UInt8):Str:=⟨l.toArray⟩
theorem JI(s:Str):str s.data.toList=s:=by unfold str;apply ahm;simp
def more(r:Cp.Rd):Prop:=0<r.rest.length/\r.err=0
instance (r:Cp.Rd):Decidable (more r):=by unfold more;infer_instance
def DU(r:Cp.Rd):Bool:=r.rest.isEmpty&&r.err==0
def wC:Nat->Cp.Rd->List bT->Cp.Rd × List bT
 |0,r,l=>(r,l)
 |f+1,r,l=>if more r then wC f (jC (jC r).2).2 (l++ [(str (jC r).1,str (jC (jC r).2).1)])else(r,l)
def SG(s:List UInt8):Option (List bT):=
 if DU (wC (s.length+1) ⟨s,0⟩ []).1&&En.right (wC (s.length+1) ⟨s,0⟩ []).2 then some (wC (s.length+1) ⟨s,0⟩ []).2 else none
theorem Fv{r:Cp.Rd}(n:Int)(h:r.err≠0):r.bytes n=([],r):=by
 unfold Cp.Rd.bytes Cp.Rd.fail;simp[h]
theorem OC{r:Cp.Rd}(n:Int)(h:(r.bytes n).2.err=0):(r.bytes n).2.rest=r.rest.drop n.toNat/\n<=r.rest.length/\0<=n:=by
 unfold Cp.Rd.bytes Cp.Rd.fail at*;by_cases h1:n<0
 ·simp only[if_pos h1]at h;by_cases h2:r.err=0
  ·simp[h2]at h
  ·simp[h2]at h
 ·by_cases h3:(r.rest.length:Int)<n
  ·simp only[if_neg h1,if_pos h3]at h;by_cases h2:r.err=0
   ·simp[h2]at h
   ·simp[h2]at h
  ·simp only[if_neg h1,if_neg h3]at h ⊢;by_cases h2:r.err=0
   ·simp only[if_pos h2];exact⟨trivial,by omega,by omega⟩
   ·simp[h2]at h
def mu(r:Cp.Rd):Nat:=if r.err=0 then r.rest.length+1 else 0
theorem SH{r:Cp.Rd}(h:r.err=0):mu (jC r).2<mu r:=by
 unfold mu;rw[if_pos h];split
 ·rename_i h2;unfold jC at h2 ⊢;have h3:=OC _ h2
  have h4:(r.int 1).2.err=0:=by
   refine Classical.byContradiction λhn=> ?_;rw[Fv _ hn]at h2;exact hn h2
  have h5:=OC (r:=r) (1:Nat) h4;rw[h3.1,acP]
  have h6:((r.int 1).2.rest).length=r.rest.length-1:=by
   show((r.bytes (1:Nat)).2.rest).length=_;rw[h5.1,acP];rfl
  rw[h6];have:=h5.2.1;omega
 ·omega
theorem SI(r:Cp.Rd):mu (jC r).2<=mu r:=by
 by_cases h:r.err=0
 ·exact Nat.le_of_lt (SH h)
 ·have e:(r.int 1).2=r:=by show(r.bytes _).2=r;rw[Fv _ h]
  unfold jC;rw[e,Fv _ h];exact Nat.le_refl _
theorem OD{f:Nat}{r:Cp.Rd}{l:List bT}(h:¬more r):wC f r l=(r,l):=by
 cases f with
 |zero=>rfl
 |succ f=>rw[wC,if_neg h]
theorem adS(s:Str)(hs:s.size<=255):Cp.num [ag5 s.size]=s.size:=by
 have e:Cp.num [ag5 s.size]=(ag5 s.size).toNat:=by simp[Cp.num]
 rw[e,UInt8.toNat_ofNat'];omega
theorem Fz(s:Str)(hs:s.size<=255)(tl:List UInt8):jC ⟨text s++tl,0⟩=(s.data.toList,⟨tl,0⟩):=by
 have e1:Cp.Rd.int ⟨text s++tl,0⟩ 1=(s.size,⟨s.data.toList++tl,0⟩):=by
  unfold text;rw[Cp.WJ rfl (by simp)];simp only[agZ,List.take_succ_cons,List.take_zero,List.drop_succ_cons,List.drop_zero];rw[adS s hs]
 unfold jC;rw[e1];have hl:s.data.toList.length=s.size:=by rw[ag2,aj2]
 simp only;rw[Cp.JB rfl (by simp)];simp only;rw[List.take_left' hl,List.drop_left' hl]
theorem DV{x:bT}(h:may x.1 x.2=true):0<x.1.size/\x.1.size<=255/\x.2.size<=255:=by
 unfold may at h;simp only[acJ,decide_eq_true_eq]at h;omega
theorem OE:∀ (l:List bT) (f:Nat) (acc:List bT),(∀x∈l,may x.1 x.2=true)->l.length<=f->wC f ⟨rH l,0⟩ acc=(⟨[],0⟩,acc++l)
 | [],f,acc,_,_=>by rw[OD (by unfold more rH;simp)];simp[rH]
 |x::l,0,acc,_,h=>by simp at h
 |x::l,f+1,acc,hm,h=>by
  have hx:=DV (hm x aae);have e:rH (x::l)=text x.1++(text x.2++rH l):=by unfold rH enc1;rw[ahf,ac8]
  have asD:more ⟨rH (x::l),0⟩:=⟨by show 0<(rH (x::l)).length;rw[e,aag,jZ];omega,rfl⟩;rw[wC,if_pos asD,e,Fz _ hx.2.1];simp only;rw[Fz _ hx.2.2];simp only;rw[OE l f _ (λy hy=>hm y (acF _ hy)) (by simp at h;omega),JI,JI,ac8];rfl
theorem adT{l:List bT}(h:En.right l=true):SG (rH l)=some l:=by
 have hm:=((En.fH l).1 h).1;have hl:l.length<=(rH l).length+1:=by rw[zk];have:=mD l;omega
 unfold SG;rw[OE l _ [] hm hl];simp[DU,h]
theorem SK(i:Int)(h1:2<=i)(h2:i<=4294967295)(tl:List UInt8):Cp.Rd.int ⟨Cp.be 4 i.toNat++tl,0⟩ 4=(i.toNat,⟨tl,0⟩):=by
 have hl:(Cp.be 4 i.toNat).length=4:=Cp.fD _ _;rw[Cp.WJ rfl (by show 4<=(Cp.be 4 i.toNat++tl).length;rw[aag];omega)];show(Cp.num ((Cp.be 4 i.toNat++tl).take 4),(⟨(Cp.be 4 i.toNat++tl).drop 4,0⟩:Cp.Rd))=_;rw[List.take_left' hl,List.drop_left' hl,Cp.wu (by omega)]
end Nd
namespace Go.Proofs.YtadnmegdbllaoaaGreatDoor
open Go.RowKit Go.Shelf Tryz
def encS(l:List bT):List UInt8:=if En.right l then Nd.rH l else []
theorem Jd(a b:List UInt8):Nd.str a++Nd.str b=Nd.str (a++b):=by unfold Nd.str;apply ahm;simp
theorem JJ(l:List bT)(k:Nat)(hk:k<l.length):Nd.rH (l.take (k+1))=Nd.rH (l.take k)++(Nd.text l[k].1++Nd.text l[k].2):=by
 rw[acO hk];unfold Nd.rH;rw[agt];simp[Nd.enc1]
theorem wE(l:List UInt8):(Nd.str l).size=l.length:=by unfold Nd.str;rfl
theorem FB(s:ByteArray)(hs:s.size<=255)(w:World):Calls prog 232 #[.string s] w λe w'=>e= .returned (.tuple #[.string (Nd.str (Nd.text s)), .int .i64 0])/\Below w.heap.size w w':=aaz s hs w
theorem G5(A:Option Addr)(c:Nat)(l:List bT)(w:World)(hr:LS gV w w.heap.size A l)(hl:l.length<=100000):
  Calls prog 224 #[.slice A l.length c] w λe w'=>e= .returned (.tuple #[.string (Nd.str (encS l)), .int .i64 (alN (En.right l))])/\Below w.heap.size w w':=by
 have hR:=aS (sJ A c l w hr ak)
 cases gy:En.right l with
 |false=>
  rw[gy]at hR;have he:Nd.str (encS l)=⟨#[]⟩:=by unfold encS;rw[gy];rfl
  rw[he];clear gy he;go_enter func224,ntmps224
  go_wp2_with fail
  refine hR.out.mono ?_;rintro e w1 ⟨rfl,b1⟩;go_wp2;go_ret2;exact⟨rfl,b1⟩
 |true=>
  rw[gy]at hR;have he:Nd.str (encS l)=Nd.str (Nd.rH l):=by unfold encS;rw[gy];rfl
  rw[he];obtain⟨R,hRR⟩:=aJ (Nd.str (Nd.rH l));rw[<-hRR];have Yw:=ah hRR;have Yx:=((En.fH l).1 gy).1;have HM:=ah Yx;clear gy Yx he hRR;go_enter func224,ntmps224
  go_wp2_with fail
  refine hR.out.mono ?_;rintro e w1 ⟨rfl,b1⟩;have MX:=hr.up b1;clear hR;go_wp2
  go_loopw [4,16] (λs i wr=>∃ (k:Nat) (S:ByteArray),k<=l.length/\i= .int .i64 k/\s= .string S/\Hid (S=Nd.str (Nd.rH (l.take k)))/\S.size<=100*k/\Below w1.heap.size w1 wr) (λ_ i _=>l.length-(intOf i).toNat)
  case atStart=>exact⟨0,⟨#[]⟩,by omega,rfl,rfl,ah rfl,by simp[ByteArray.size],aU⟩
  case round=>
   obtain⟨k,S,hk,rfl,rfl,Vy,hS,fM⟩:=hrel;by_cases hlt:k<l.length
   ·obtain⟨b2,o2,rfl,bK,g0,g1⟩:=(MX.below fM).ent hlt;have hm:=HM.out _ (acT hlt);have htk:=ah (JJ l k hlt);obtain⟨x,hx⟩:=aJ (l[k]);rw[<-hx]at g0 g1 hm;have HX:=ah hx;clear hx;unfold En.may at hm;simp only[acJ,decide_eq_true_eq]at hm;obtain⟨⟨m1,m2⟩,m3⟩:=hm;have hSx:Hid (S++(Nd.str (Nd.text x.1)++Nd.str (Nd.text x.2))=Nd.str (Nd.rH (l.take (k+1)))):=ah (by rw[htk.out,Vy.out,Jd,Jd, <-HX.out]);have z1:(Nd.str (Nd.text x.1)).size<=17:=by rw[wE,Nd.jZ];omega
    have z2:(Nd.str (Nd.text x.2)).size<=41:=by rw[wE,Nd.jZ];omega
    have t1:=λW=>aS (FB x.1 ak W);have t2:=λW=>aS (FB x.2 ak W);generalize Nd.str (Nd.text x.1)=S1 at*;generalize Nd.str (Nd.text x.2)=S2 at*;have Ru:b2<wr.heap.size:=by have:=fM.size;omega
    go_wp2_with fail
    refine(t1 _).out.mono ?_;rintro e w2 ⟨rfl,dJ⟩;have hbx:=aO.new wr 94 #[.string x.1, .string x.2];have VX:=hbx.below dJ hbx.lt;have y1:=VX.cell 1;have RQ:=VX.lt;have adR:=(fM.alloc fM.size (.cells #[.string x.1, .string x.2] 94)).trans (dJ.mono (by have:=fM.size;simp;omega));clear hbx VX dJ;go_wp2_with fail
    refine(t2 _).out.mono ?_;rintro e w3 ⟨rfl,dJ⟩;have vF:=adR.trans (dJ.mono adR.size);clear dJ;have fG:(S.size:Int)+((S1.size:Int)+S2.size)<=1000000000:=by omega
    have aw1:(S1.size:Int)+S2.size<=1000000000:=by omega
    go_wp2
    go_roundw
    case rel=>exact⟨k+1,_,by omega,by go_num,rfl,hSx,by rw[ajO,ajO];omega,vF⟩
    case measure=>simp[intOf];omega
   ·obtain rfl:k=l.length:=by omega
    go_wp2;go_ret2;refine⟨?_,b1.trans (fM.mono b1.size)⟩;have hs:S=R:=by rw[Vy.out,Yw.out,ahe]
    rw[hs];rfl
theorem CO(g:Nat)(r:Cp.Rd)(w:World)(h:aO w g 236 (bC r)):
  Calls prog 176 #[.pointer (some ⟨g,0,none⟩)] w λe w'=>e= .returned (.string (Nd.str (Nd.jC r).1))/\aO w' g 236 (bC (Nd.jC r).2)/\w.grownBy w' (some g):=by
 have hi:=DJ g r 1 w h (.inl rfl);have hb:=λW (hW:aO W g 236 (bC (r.int 1).2))=>Ov g (r.int 1).2 ((r.int 1).1:Nat) W hW;have e1:(Cp.Rd.bytes (r.int 1).2 ((r.int 1).1:Nat))=Nd.jC r:=rfl;rw[e1]at hb;change ∀W,_->Calls prog _ _ W (λe w'=>e= .returned (.string (Nd.str (Nd.jC r).1))/\_)at hb;generalize Nd.jC r=o at*;obtain⟨o1,o2⟩:=o;simp only at hb ⊢;generalize Nd.str o1=S at*;generalize (r.int 1).1=n at*;generalize (r.int 1).2=r1 at*;have HI:=ah hi;have HB:=ah hb;clear hi hb e1;go_enter func176,ntmps176
 go_wp2_with fail
 refine aac HI ?_;rintro e w1 ⟨rfl,iq,hg1⟩;go_wp2_with fail
 refine aac (HB.out w1 iq) ?_;rintro e w2 ⟨rfl,jV,hg2⟩;go_wp2;go_ret;exact⟨rfl,jV,hg1.trans hg2⟩
theorem CP(g:Nat)(r:Cp.Rd)(w:World)(h:aO w g 236 (bC r)):Calls prog 174 #[.pointer (some ⟨g,0,none⟩)] w λe w'=>e= .returned (.int .i64 r.rest.length)/\w'=w:=by
 have h0:=h.cell 0;simp only[bC]at h0;go_enter func174,ntmps174
 go_wp2;go_ret;exact⟨rfl,rfl⟩
theorem alO(s:List UInt8):((Nd.str s).toList.isEmpty)=s.isEmpty:=by
 rw[size_empty,wE];cases s<;>simp
theorem FC(g:Nat)(r:Cp.Rd)(w:World)(h:aO w g 236 (bC r)):Calls prog 129 #[.pointer (some ⟨g,0,none⟩)] w λe w'=>∃x:Int,e= .returned (.int .i64 x)/\(x==0)=Nd.DU r/\Below w.heap.size w w':=by
 have h0:=h.cell 0;have h1:=h.cell 1;have hl:=h.lt;simp only[bC]at h0 h1;have hse:=alO r.rest;unfold Nd.str at hse;by_cases he:r.rest= []
 ·have e1:(⟨r.rest.toArray⟩:ByteArray)=⟨#[]⟩:=by rw[he]
  rw[e1]at h0;have jA:(r.err==0)=Nd.DU r:=by unfold Nd.DU;rw[he];simp
  have Jq:=ah jA;clear hse jA he e1;go_enter func129,ntmps129
  go_wp2;go_ret;exact⟨_,rfl,Jq,aU⟩
 ·have dL:(⟨r.rest.toArray⟩:ByteArray).toList.isEmpty=false:=by rw[hse];cases hr:r.rest with
   |nil=>exact absurd hr he
   |cons a b=>rfl
  have jA:Nd.DU r=false:=by unfold Nd.DU;cases hr:r.rest with
   |nil=>exact absurd hr he
   |cons a b=>rfl
  have hf:=λW (hW:aO W w.heap.size 236 (bC ⟨[],r.err⟩))=>JC w.heap.size ⟨[],r.err⟩ 11 W hW;have hx:((Cp.Rd.fail ⟨[],r.err⟩ 11).err==0)=false:=by unfold Cp.Rd.fail;split<;>simp_all
  have HX:=ah hx;have Jq:=ah jA;have HF:=ah hf;generalize (⟨r.rest.toArray⟩:ByteArray)=S at*;clear hse jA he hf hx;go_enter func129,ntmps129
  go_wp2_with fail
  refine aac (HF.out _ (aO.new w 236 (bC ⟨[],r.err⟩))) ?_;rintro e w1 ⟨rfl,hB,hg⟩;have c1:=hB.cell 1;have E5:=hB.lt;have bD:Below w.heap.size w w1:=(aU.alloc aK _).grown hg aH (λk e=>by cases e;exact aK);simp only[bC]at c1;generalize (Cp.Rd.fail ⟨[],r.err⟩ 11).err=x at*;clear hB hg;go_wp2;go_ret;exact⟨_,rfl,by rw[HX.out,Jq.out],bD⟩
def sliceLen:Value->Nat
 | .slice _ n _=>n
 |_=>0
def edl(o:Option (List bT)):List bT:=o.getD []
def edx(o:Option (List bT)):Int:=if o.isSome then 0 else 3
def apI(l:List bT)(x:Int)(w:World)(e:Ending)(w':World):Prop:=
 ∃A c,e= .returned (.tuple #[.slice A l.length c, .int .i64 x])/\LO gV 94 w' w.heap.size (.slice A l.length c) l/\Below w.heap.size w w'
theorem FD{α:Type}{E:Enc α}(w:World):SV E w none 0 []:=⟨LS.nil_,by simp,λ_=>rfl⟩
theorem SL(s:List UInt8)(w:World)(hs:s.length<=50000):
  Calls prog 173 #[.string (Nd.str s)] w (apI (edl (Nd.SG s)) (edx (Nd.SG s)) w):=by
 obtain⟨ol,N7⟩:=aJ (edl (Nd.SG s));obtain⟨ox,hox⟩:=aJ (edx (Nd.SG s));rw[<-N7, <-hox];have HOL:=ah N7;have HOX:=ah hox;clear N7 hox;go_enter func173,ntmps173
 go_wp2_with fail
 refine(JD s _).mono ?_;rintro e w1 ⟨rfl,uw⟩;have hB0:aO w1 w.heap.size 236 (bC ⟨s,0⟩):=by rw[uw];exact aO.new _ _ _
 have uZ:Below w.heap.size w w1:=by rw[uw];exact aU.alloc aK _
 clear uw;have gI:w.heap.size<w1.heap.size:=hB0.lt;go_wp2
 go_loopw [5] (λv wr=>∃ (f:Nat) (r:Cp.Rd) (l:List bT),Hid (Nd.wC (s.length+1) ⟨s,0⟩ []=Nd.wC f r l)/\f+l.length=s.length+1/\Nd.mu r<=f/\LO gV 94 wr w1.heap.size v l/\aO wr w.heap.size 236 (bC r)/\Below w.heap.size w wr/\w1.heap.size<=wr.heap.size) (λv _=>s.length+1-sliceLen v)
 case atStart=>exact⟨s.length+1,⟨s,0⟩, [],ah rfl,by simp,by unfold Nd.mu;simp,LO.nil_ _ _,hB0,uZ,aK⟩
 case round=>
  obtain⟨f,r,l,HD,hf,hmu,dh,hB,hb,hz⟩:=hrel;obtain⟨A,c,rfl⟩:=dh.form;have hle:l.length<=50001:=by omega
  have HL:=aS (CP w.heap.size r wr hB);have HE:=aS (YW w.heap.size r wr hB);have aCx:=hB.lt;by_cases hm:Nd.more r
  ·obtain⟨m1,m2⟩:=hm;have aw7:=Nd.SH m2;have avg:=Nd.SI (Nd.jC r).2;obtain⟨f,rfl⟩:∃f',f=f'+1:=⟨f-1,by omega⟩;have hd:Nd.wC (f+1) r l=Nd.wC f (Nd.jC (Nd.jC r).2).2 (l++ [(Nd.str (Nd.jC r).1,Nd.str (Nd.jC (Nd.jC r).2).1)]):=by rw[Nd.wC,if_pos ⟨m1,m2⟩]
   rw[m2]at HE;have pR:=ah (λW h=>CO w.heap.size r W h);have qQ:=ah (λW h=>CO w.heap.size (Nd.jC r).2 W h);have apJ:Nd.mu (Nd.jC (Nd.jC r).2).2<=f:=by omega
   clear hmu aw7 avg;generalize Nd.str (Nd.jC r).1=S1 at*;generalize (Nd.jC r).2=r1 at*;generalize Nd.str (Nd.jC r1).1=S2 at*;generalize (Nd.jC r1).2=r2 at*;have HDD:=ah hd;have HM:=ah apJ;clear hd apJ m2;generalize r.rest.length=n at*;go_wp2_with fail
   refine HL.out.mono ?_;rintro e _ ⟨rfl,rfl⟩;go_wp2_with fail
   refine HE.out.mono ?_;rintro e _ ⟨rfl,rfl⟩;go_wp2_with fail
   refine(pR.out _ hB).mono ?_;rintro e w4 ⟨rfl,lW,hg4⟩;go_wp2_with fail
   refine(qQ.out _ lW).mono ?_;rintro e w5 ⟨rfl,EG,hg5⟩;have alP:=hg4.trans hg5;have dL:(Value.slice A l.length c).ownBlock≠some w.heap.size:=λe=>by have:=(ada dh _ e).1;omega
   have asE:w5.ownsRow w1.heap.size 94 2 (.slice A l.length c) l.length (gV.cells l):=World.ownsRow.kept dh alP (.inr dL);have PV:w1.heap.size<=w5.heap.size:=acN hz alP.size;have lZ:Below w.heap.size w w5:=hb.grown alP hb.size (λk e=>by cases e;exact aK);go_wp2_with (at_builtin;refine fA rfl _ _ 50 rfl YR underlying50 rfl ay rfl asE rfl aH rfl (by simp[Value.oneCell']) (by unfold maxLen;omega) ak PV ?_;intro v' w6 eG jT iT _ _)
   have hsn:=LO.snoc (E:=gV) (x:=(S1,S2)) rfl rfl rfl eG;obtain⟨A2,c2,rfl⟩:=hsn.form
   go_roundw
   case rel=>exact⟨f,r2,_,ah (HD.out.trans HDD),by simp;omega,HM,hsn,EG.below iT gI,lZ.trans (iT.mono ak),acN PV iT.size⟩
   case measure=>simp[sliceLen];omega
  ·have hd:=Nd.OD (f:=f) (l:=l) hm;have fE:=aS (FC w.heap.size r wr hB);have hsl:=dh.ls;have hsv:=LO.lower dh (Nat.le_of_lt gI);have HR:=ah (λW h=>sJ A c l W h ak);have asF:Nd.SG s=if Nd.DU r&&En.right l then some l else none:=by unfold Nd.SG;rw[HD.out,hd]
   have aaB:=ah asF;clear hd asF
   have agf:(r.rest.length=0)\/(0<r.rest.length/\(r.err==0)=false):=by
    by_cases h0:r.rest.length=0
    ·exact .inl h0
    ·exact .inr ⟨by omega,by rw[beq_eq_false_iff_ne];exact λh1=>hm ⟨by omega,h1⟩⟩
   clear hm hmu
   cases jA:Nd.DU r with
   |false=>
    have he1:Hid (ol= []):=ah (by rw[HOL.out,aaB.out,jA,Bool.false_and];rfl);have he2:Hid (ox=3):=ah (by rw[HOX.out,aaB.out,jA,Bool.false_and];rfl);rcases agf with h0 | ⟨h0,h1⟩
    ·rw[h0]at HL;go_wp2_with fail
     refine HL.out.mono ?_;rintro e _ ⟨rfl,rfl⟩;go_wp2_with fail
     refine fE.out.mono ?_;rintro e w3 ⟨x,rfl,hx,dJ⟩;rw[jA]at hx;have jB:¬x=0:=by simpa using hx
     have hx3:(x != 0)=true:=by simpa using hx
     clear hx;go_wp2;go_ret2;rw[he1.out,he2.out];exact⟨none,0,rfl,LO.nil_ _ _,hb.trans (dJ.mono hb.size)⟩
    ·generalize r.rest.length=n at*;go_wp2_with fail
     refine HL.out.mono ?_;rintro e _ ⟨rfl,rfl⟩;go_wp2_with fail
     refine HE.out.mono ?_;rintro e _ ⟨rfl,rfl⟩;go_wp2_with fail
     refine fE.out.mono ?_;rintro e w3 ⟨x,rfl,hx,dJ⟩;rw[jA]at hx;have jB:¬x=0:=by simpa using hx
     have hx3:(x != 0)=true:=by simpa using hx
     clear hx;go_wp2;go_ret2;rw[he1.out,he2.out];exact⟨none,0,rfl,LO.nil_ _ _,hb.trans (dJ.mono hb.size)⟩
   |true=>
    cases gy:En.right l with
    |false=>
     have he1:Hid (ol= []):=ah (by rw[HOL.out,aaB.out,jA,gy];rfl);have he2:Hid (ox=3):=ah (by rw[HOX.out,aaB.out,jA,gy];rfl);rcases agf with h0 | ⟨h0,h1⟩
     ·rw[h0]at HL;go_wp2_with fail
      refine HL.out.mono ?_;rintro e _ ⟨rfl,rfl⟩;go_wp2_with fail
      refine fE.out.mono ?_;rintro e w3 ⟨x,rfl,hx,dJ⟩;rw[jA]at hx;obtain rfl:x=0:=by simpa using hx
      have hbr:=hb.trans (dJ.mono hb.size);have Il:=hsl.up dJ;have JK:=hsv.below dJ;have AV:=HR.out w3 Il;rw[gy]at AV;have kV:=ah AV;clear AV;go_wp2_with fail
      refine aac kV ?_;rintro e w4 ⟨rfl,iC⟩;go_wp2;go_ret2;rw[he1.out,he2.out];exact⟨none,0,rfl,LO.nil_ _ _,hbr.trans (iC.mono hbr.size)⟩
     ·generalize r.rest.length=n at*;go_wp2_with fail
      refine HL.out.mono ?_;rintro e _ ⟨rfl,rfl⟩;go_wp2_with fail
      refine HE.out.mono ?_;rintro e _ ⟨rfl,rfl⟩;go_wp2_with fail
      refine fE.out.mono ?_;rintro e w3 ⟨x,rfl,hx,dJ⟩;rw[jA]at hx;obtain rfl:x=0:=by simpa using hx
      have hbr:=hb.trans (dJ.mono hb.size);have Il:=hsl.up dJ;have JK:=hsv.below dJ;have AV:=HR.out w3 Il;rw[gy]at AV;have kV:=ah AV;clear AV;go_wp2_with fail
      refine aac kV ?_;rintro e w4 ⟨rfl,iC⟩;go_wp2;go_ret2;rw[he1.out,he2.out];exact⟨none,0,rfl,LO.nil_ _ _,hbr.trans (iC.mono hbr.size)⟩
    |true=>
     have he1:Hid (ol=l):=ah (by rw[HOL.out,aaB.out,jA,gy];rfl);have he2:Hid (ox=0):=ah (by rw[HOX.out,aaB.out,jA,gy];rfl);rcases agf with h0 | ⟨h0,h1⟩
     ·rw[h0]at HL;go_wp2_with fail
      refine HL.out.mono ?_;rintro e _ ⟨rfl,rfl⟩;go_wp2_with fail
      refine fE.out.mono ?_;rintro e w3 ⟨x,rfl,hx,dJ⟩;rw[jA]at hx;obtain rfl:x=0:=by simpa using hx
      have hbr:=hb.trans (dJ.mono hb.size);have Il:=hsl.up dJ;have JK:=hsv.below dJ;have AV:=HR.out w3 Il;rw[gy]at AV;have kV:=ah AV;clear AV;go_wp2_with fail
      refine aac kV ?_;rintro e w4 ⟨rfl,iC⟩;go_wp2;go_ret2;rw[he1.out,he2.out];exact⟨A,c,rfl,JK.below iC,hbr.trans (iC.mono hbr.size)⟩
     ·generalize r.rest.length=n at*;go_wp2_with fail
      refine HL.out.mono ?_;rintro e _ ⟨rfl,rfl⟩;go_wp2_with fail
      refine HE.out.mono ?_;rintro e _ ⟨rfl,rfl⟩;go_wp2_with fail
      refine fE.out.mono ?_;rintro e w3 ⟨x,rfl,hx,dJ⟩;rw[jA]at hx;obtain rfl:x=0:=by simpa using hx
      have hbr:=hb.trans (dJ.mono hb.size);have Il:=hsl.up dJ;have JK:=hsv.below dJ;have AV:=HR.out w3 Il;rw[gy]at AV;have kV:=ah AV;clear AV;go_wp2_with fail
      refine aac kV ?_;rintro e w4 ⟨rfl,iC⟩;go_wp2;go_ret2;rw[he1.out,he2.out];exact⟨A,c,rfl,JK.below iC,hbr.trans (iC.mono hbr.size)⟩
end Go.Proofs.YtadnmegdbllaoaaGreatDoor
