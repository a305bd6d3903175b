/- Part of this proof. -/
import Derived.Deep.LoopGhost
import Derived.Deep.RegionHeld3
import Derived.Deep.RegionLaw
import Derived.Test.YteppebbmnojapaaGreatDoorL13
import Derived.Test.YteppebbmnojapaaGreatDoorL14
set_option maxRecDepth 100000
set_option maxHeartbeats 8000000
namespace Go.Proofs.YteppebbmnojapaaGreatDoor
open Go.RowKit Go.Shelf
theorem YW(a b:ByteArray)(w:World):Calls Tryz.prog 257 #[.string a, .string b] w fun e w'=>e= .returned (.int .i64 (Lib.compareBytes a.data.toList b.data.toList))/\w'=w:=Any.strings_Compare Tryz.lays106 a b w
theorem Rz(n:Nat)(w:World)(hn:n<=4000000):Calls Tryz.prog 258 #[.slice none 0 0, .int .i64 n] w (qH bD 101 [] w):=by
 obtain⟨i0,hi,hz0,hz1,hz2⟩:=EU
 by_cases h0:n=0
 ·subst h0
  refine Calls.mono (Any8.slices_Grow_room Tryz.growEnt none 0 0 0 w (by omega) (by omega) (by omega) (by omega)) ?_
  rintro e w' ⟨rfl,hw⟩
  subst hw
  exact⟨_,rfl,LO.nil_ _ _,Below.refl _ _⟩
 ·refine Calls.mono (Any8.slices_Grow_grow Tryz.growEnt i0 _ hi hz0 (by omega) none 0 0 n [] w (by omega) (by omega) (by rw[hz2];omega) (by omega) (by simp) (fun _=>rfl) (fun a h=>by cases h)) ?_
  rintro e w' ⟨rfl,rfl⟩
  refine⟨_,rfl, ?_,((Below.refl _ _).drew).alloc (Nat.le_refl _) _⟩
  refine World.ownsRow_made (base:=w.heap.size) (e:=101) (size:=2) w.drew _ _ (Nat.le_refl _) (grownCap_le_maxLen w _ _ _ (by unfold maxLen;omega)) ?_
  rw[Array.size_append,Array.size_append,size_zeroCells,size_zeroCells]
  have h:=grownCap_ge w (0+n) 0 101
  have e1:(Value.agg #[Value.string ⟨#[]⟩,Value.string ⟨#[]⟩]).cells.size=2:=rfl
  have e2:Tryz.growEnt_ren.t 25=101:=rfl
  rw[e1,e2]
  simp only[Nat.zero_add]at h ⊢
  simp
  omega
abbrev Part:=Option Addr × Nat × List Ent
def ig(ps:List Part):List Ent:=ps.flatMap (·.2.2)
def Jj(p:Part):Value:= .slice p.1 p.2.2.length p.2.1
theorem EW(ps:List Part)(j:Nat)(hj:j<ps.length):ig (ps.take (j+1))=ig (ps.take j)++ps[j].2.2:=by
 unfold ig;rw[List.take_succ_eq_append_getElem hj,List.flatMap_append];simp
theorem VN(ps:List Part)(j:Nat):(ig (ps.take j)).length<=(ig ps).length:=by
 have e:ig ps=ig (ps.take j)++ig (ps.drop j):=by unfold ig;rw[<-List.flatMap_append,List.take_append_drop]
 rw[e,List.length_append];omega
theorem qR(g n:Nat)(ps:List Part)(hn:ps.length=n)(hn2:n<=10)(w:World)(hB:Blk w g 22 (ps.map Jj).toArray)(hls:∀p∈ps,LS bD w w.heap.size p.1 p.2.2)(hl:(ig ps).length<=1000000):
  Calls Tryz.prog 196 #[.slice (some ⟨g,0,none⟩) n n] w (qH bD 101 (ig ps) w):=by
 obtain⟨o,ho⟩:∃o,o=ig ps:=⟨_,rfl⟩
 rw[<-ho]
 have HO:=Lib.hid ho
 have HLS:=Lib.hid hls
 have HN:=Lib.hid hn
 have hnp:ps.length<=10:=by omega
 have adn:ps.length<=n:=by omega
 have ado:n<=ps.length:=by omega
 have hcell:∀j (hj:j<ps.length),w.cell? ⟨g,j,none⟩=some (Jj ps[j]):=fun j hj=>by
  rw[hB.cell j];simp[hj]
 have HC:=Lib.hid hcell
 have hgl:=hB.lt
 have hcl:=fun j=>VN ps j
 clear ho hls hn hcell hB
 go_enter Tryz.func196,Tryz.ntmps196
 go_wp2
 go_loop [3,5,11] (fun s _ i=>∃j:Nat,j<=ps.length/\i= .int .i64 j/\s= .int .i64 ((ig (ps.take j)).length:Int)) (fun _ _ i=>n-(intOf i).toNat)
 case atStart=>exact⟨0,by omega,rfl,rfl⟩
 case round=>
  obtain⟨j,hj,rfl,rfl⟩:=hrel
  by_cases hlt:j<ps.length
  ·have hlt2:(j:Int)<n:=by omega
   have c0:=HC.out j hlt
   have hs:=congrArg List.length (EW ps j hlt)
   rw[List.length_append]at hs
   have h1:=hcl (j+1)
   unfold Jj at c0
   generalize ps[j]=p at*
   obtain⟨pA,pk,pl⟩:=p
   simp only at c0 hs
   have HS:=Lib.hid hs
   have hb1:((ig (ps.take j)).length:Int)+pl.length<=1000000:=by omega
   have hb0:(0:Int)<=((ig (ps.take j)).length:Int)+pl.length:=by omega
   clear hs
   generalize (ig (ps.take j)).length=s1 at*
   go_wp2
   go_round
   case rel=>exact⟨j+1,by omega,by go_num,by rw[HS.out];go_num⟩
   case measure=>simp[intOf];omega
  ·obtain rfl:j=ps.length:=by omega
   have hge:(n:Int)<=ps.length:=by omega
   have hal:ig (ps.take ps.length)=ig ps:=by rw[List.take_of_length_le (Nat.le_refl _)]
   rw[hal]
   have hgr:=Rz (ig ps).length w (by omega)
   have HG:=Lib.hid hgr
   clear hgr
   have HAL:=Lib.hid hal
   clear hal
   go_wp2_with fail
   refine HG.out.mono ?_
   rintro e w2 ⟨v,rfl,ho2,hb2⟩
   go_wp2
   go_loopw [6,8,27] (fun v _ i wr=>∃j:Nat,j<=ps.length/\i= .int .i64 j/\Below w.heap.size w2 wr/\LO bD 101 wr w.heap.size v (ig (ps.take j))) (fun _ _ i _=>n-(intOf i).toNat)
   case atStart=>exact⟨0,by omega,rfl,Below.refl _ _,ho2⟩
   case round=>
    obtain⟨j,hj,rfl,hbw,hown⟩:=hrel
    have hzz:w.heap.size<=wr.heap.size:=Nat.le_trans hb2.size hbw.size
    have hbz:=hb2.trans hbw
    by_cases hlt:j<ps.length
    ·have hlt2:(j:Int)<n:=by omega
     have c0:=(hbz.cell (p:=⟨g,j,none⟩) hgl).trans (HC.out j hlt)
     have hls:=HLS.out _ (List.getElem_mem hlt)
     have hcs:=EW ps j hlt
     have h1:=hcl (j+1)
     rw[hcs,List.length_append]at h1
     unfold Jj at c0
     have HCS:=Lib.hid hcs
     clear hcs
     generalize ps[j]=p at*
     obtain⟨pA,pk,pl⟩:=p
     simp only at c0 hls h1 HCS
     have s1:LS bD wr wr.heap.size pA pl:=(hls.below hbz).more hzz
     generalize ig (ps.take j)=cj at*
     have hraw:=hown.raw rfl (s:=2) rfl
     have hgw:g<wr.heap.size:=by omega
     go_wp2_with (at_builtin;refine gQ rfl (.tmp 31) (.tmp 32) 22 rfl EU Tryz.underlying22 rfl (by decide) rfl hraw rfl s1 (bD.jv _) (by unfold maxLen;omega) (by omega) hzz ?_;intro v' w3 hown' hgrow hbel)
     go_roundw
     case rel=>
      refine⟨j+1,by omega,by go_num,hbw.trans hbel, ?_⟩
      rw[HCS.out]
      unfold LO
      rw[bD.dS,List.length_append];exact hown'
     case measure=>simp[intOf];omega
    ·obtain rfl:j=ps.length:=by omega
     go_wp2
     go_ret
     exact⟨_,rfl,by rw[HO.out, <-HAL.out];exact hown,hbz⟩
theorem Nr(A:Option Addr)(c:Nat)(l:List Ent)(w:World)(hv:A=none->l.length=0/\c=0)(hr:LS bD w w.heap.size A l)(hl:l.length<=1000000):Calls Tryz.prog 195 #[.slice A l.length c] w (qH bD 101 l w):=by
 have hn:=fun W a n c=>Lib.run_eql_slice_nil (P:=Tryz.prog) W 22 101 a n c 0 0 Tryz.underlying22
 rcases A with _ | a
 ·obtain⟨h0,rfl⟩:=hv rfl
  have hl0:l= []:=List.eq_nil_of_length_eq_zero h0
  subst hl0
  clear hv h0
  go_enter Tryz.func195,Tryz.ntmps195
  go_wp2
  go_ret
  exact⟨_,rfl,LO.nil_ _ _,Below.refl _ _⟩
 ·have hr2:Reads (w.alloc (.cells #[] 101)) w.heap.size 2 (some a) l.length (bD.cells l):=Reads.alloc hr (Nat.le_refl _) _
  have hown:=World.ownsRow_lit (base:=w.heap.size) (e:=101) (size:=2) w #[] 0 (Nat.le_refl _) (by decide) rfl
  clear hv
  go_enter Tryz.func195,Tryz.ntmps195
  go_wp2_with (at_builtin;refine gQ rfl (.tmp 5) (.tmp 6) 22 rfl EU Tryz.underlying22 rfl (by decide) rfl hown rfl hr2 (bD.jv _) (by unfold maxLen;omega) (by omega) (by simp) ?_;intro v' w3 hown' hgrow hbel)
  go_ret
  exact⟨_,rfl,by have h:=hown';simp only[Nat.zero_add,List.nil_append]at h;exact h,((Below.refl _ _).alloc (Nat.le_refl _) _).trans hbel⟩
theorem adp:∀a b:List UInt8,Lib.compareBytes a b=if Op.bytesLess a b then -1 else if Op.bytesLess b a then 1 else 0
 | [], []=>rfl
 | [],_::_=>rfl
 |_::_, []=>rfl
 |x::a,y::b=>by
  rw[Lib.compareBytes,adp a b]
  by_cases h1:x<y
  ·have h2:¬y<x:=by simp only[UInt8.lt_iff_toNat_lt]at *;omega
   simp[Op.bytesLess,h1]
  ·by_cases h2:y<x
   ·have h3:¬ (x=y):=by rintro rfl;exact h1 h2
    simp[Op.bytesLess,h1,h2,h3]
   ·have h3:x=y:=by
     apply UInt8.toNat_inj.1;simp only[UInt8.lt_iff_toNat_lt]at *;omega
    subst h3
    simp[Op.bytesLess,h1]
def xP(a b:ByteArray):Int:=Lib.compareBytes a.data.toList b.data.toList
theorem G7(a b:ByteArray):xP a b=if En.lt a b then -1 else if En.lt b a then 1 else 0:=by
 unfold xP En.lt
 rw[adp,Lib.toList_data,Lib.toList_data]
theorem PG{a b:ByteArray}(h:En.lt a b=true):xP a b= -1:=by rw[G7,h];rfl
theorem Jk(a:ByteArray):xP a a=0:=by rw[G7,En.lt_irrefl];rfl
theorem PI{a b:ByteArray}(h:En.lt b a=true):xP a b=1:=by rw[G7,En.uV h,h];rfl
theorem EX(x:Ent)(k:ByteArray)(w:World):Calls Tryz.prog 256 #[.agg #[.string x.1, .string x.2], .string k] w fun e w'=>e= .returned (.int .i64 (xP x.1 k))/\Below w.heap.size w w':=by
 have hc:=fun W=>ak (YW x.1 k W)
 change ∀W,Hid (Calls Tryz.prog 257 #[.string x.1, .string k] W fun e w'=>e= .returned (.int .i64 (xP x.1 k))/\w'=W)at hc
 generalize xP x.1 k=q at*
 go_enter Tryz.func256,Tryz.ntmps256
 go_wp2_with fail
 refine(hc _).out.mono ?_
 rintro e w' ⟨rfl,rfl⟩
 go_wp2
 go_ret
 exact⟨rfl,(Below.refl _ _).alloc (Nat.le_refl _) _⟩
def Lower(l:List Ent)(k:ByteArray)(i:Nat):Prop:=(∀j (hj:j<l.length),j<i->En.lt l[j].1 k=true)/\(∀j (hj:j<l.length),i<=j->En.lt l[j].1 k=false)
def aaz(l:List Ent)(k:ByteArray)(w:World)(e:Ending)(w':World):Prop:=∃ (i:Nat) (fd:Bool),e= .returned (.tuple #[.int .i64 i, .bool fd])/\i<=l.length/\(fd=true->∃h:i<l.length,l[i].1=k)/\(fd=false->∀h:i<l.length,l[i].1≠k)/\(En.Srt l->Lower l k i)/\Below w.heap.size w w'
theorem VO{l:List Ent}(h:En.Srt l){i j:Nat}(hij:i<=j)(hj:j<l.length){k:ByteArray}(hk:En.lt l[j].1 k=true):En.lt (l[i]'(by omega)).1 k=true:=by
 by_cases e:i=j
 ·subst e;exact hk
 ·exact En.lt_trans (List.pairwise_iff_getElem.1 h i j (by omega) hj (by omega)) hk
theorem abk{l:List Ent}(h:En.Srt l){i j:Nat}(hij:i<=j)(hj:j<l.length){k:ByteArray}(hk:En.lt (l[i]'(by omega)).1 k=false):En.lt l[j].1 k=false:=by
 cases hc:En.lt l[j].1 k with
 |false=>rfl
 |true=>rw[VO h hij hj hc]at hk;cases hk
theorem abl(A:Option Addr)(c:Nat)(l:List Ent)(k:ByteArray)(w:World)(hr:LS bD w w.heap.size A l)(hl:l.length<=1000000):
  Calls Tryz.prog 255 #[.slice A l.length c, .string k, .func (.func 256) #[] #[]] w (aaz l k w):=by
 go_enter Tryz.func255,Tryz.ntmps255
 go_wp2
 go_loopg [9,10,11] l.length (fun g s7 s8 _ wr=>∃lo hi:Nat,s7= .int .i64 lo/\s8= .int .i64 hi/\lo<=hi/\hi<=l.length/\hi-lo<=g/\Below w.heap.size w wr/\Hid (En.Srt l->(∀j (hj:j<l.length),j<lo->En.lt l[j].1 k=true)/\(∀j (hj:j<l.length),hi<=j->En.lt l[j].1 k=false)))
 case atStart=>exact⟨0,l.length,rfl,rfl,Nat.zero_le _,Nat.le_refl _,by omega,Below.refl _ _,Lib.hid fun _=>⟨fun j hj h=>absurd h (by omega),fun j hj h=>absurd h (by omega)⟩⟩
 case round=>
  obtain⟨lo,hi,rfl,rfl,hlh,hin,hg,hbe,HI⟩:=hrel
  by_cases hlt:lo<hi
  ·have hm:(lo+hi) / 2<l.length:=by omega
   obtain⟨b2,o2,rfl,hb2,g0,g1⟩:=(hr.below hbe).ent hm
   have hc:=fun W=>ak (EX l[(lo+hi) / 2] k W)
   have hsl:=fun h i (hi':i<=(lo+hi) / 2)=>VO (l:=l) h hi' hm (k:=k)
   have hsg:=fun h j (hj':(lo+hi) / 2<=j) (hj:j<l.length)=>abk (l:=l) h hj' hj (k:=k)
   have HSL:=Lib.hid hsl
   have HSG:=Lib.hid hsg
   clear hsl hsg
   generalize hx:l[(lo+hi) / 2]=x at*
   have hb2':b2<wr.heap.size:=by have:=hbe.size;omega
   cases hlx:En.lt x.1 k with
   |true=>
    rw[PG hlx]at hc
    have HLX:=Lib.hid hlx
    clear hlx
    go_wp2_with fail
    refine(hc _).out.mono ?_
    rintro e w2 ⟨rfl,b3⟩
    go_wp2
    go_roundg (hi-((lo+hi) / 2+1))
    case measure=>omega
    case rel=>
     refine⟨(lo+hi) / 2+1,hi,by rw[show((lo:Int)+(hi:Int)) / 2+1=(((lo+hi) / 2+1:Nat):Int)by omega],rfl,by omega,hin,Nat.le_refl _,hbe.trans (b3.mono hbe.size),Lib.hid fun hs=>⟨fun j hj hj2=> ?_,(HI.out hs).2⟩⟩
     exact HSL.out hs j (by omega) HLX.out
   |false=>
    have hq:0<=xP x.1 k:=by
     rcases En.yQ hlx with e | e
     ·rw[e,Jk];omega
     ·rw[PI e];omega
    have HLX:=Lib.hid hlx
    clear hlx
    generalize xP x.1 k=cq at*
    go_wp2_with fail
    refine(hc _).out.mono ?_
    rintro e w2 ⟨rfl,b3⟩
    go_wp2
    go_roundg ((lo+hi) / 2-lo)
    case measure=>omega
    case rel=>
     refine⟨lo,(lo+hi) / 2,rfl,by rw[show((lo:Int)+(hi:Int)) / 2=(((lo+hi) / 2:Nat):Int)by omega],by omega,by omega,Nat.le_refl _,hbe.trans (b3.mono hbe.size),Lib.hid fun hs=>⟨(HI.out hs).1,fun j hj hj2=> ?_⟩⟩
     exact HSG.out hs j hj2 hj (by rw[hx];exact HLX.out)
  ·obtain rfl:lo=hi:=by omega
   have hLow:En.Srt l->Lower l k lo:=fun hs=>HI.out hs
   have uX:=Lib.hid hLow
   clear hLow HI
   by_cases hend:lo<l.length
   ·obtain⟨b2,o2,rfl,hb2,g0,g1⟩:=(hr.below hbe).ent hend
    have hc:=fun W=>ak (EX l[lo] k W)
    have hb2':b2<wr.heap.size:=by have:=hbe.size;omega
    obtain⟨x,hx⟩:∃x,x=l[lo]:=⟨_,rfl⟩
    rw[<-hx]at hc g0 g1
    have HX:=Lib.hid hx
    clear hx
    by_cases he:x.1=k
    ·have hq:xP x.1 k=0:=by rw[he];exact Jk k
     rw[hq]at hc
     have HE:=Lib.hid he
     clear hq he
     go_wp2_with fail
     refine(hc _).out.mono ?_
     rintro e w2 ⟨rfl,b3⟩
     go_wp2
     go_ret2
     exact⟨lo,true,rfl,hin,fun _=>⟨hend,by rw[<-HX.out];exact HE.out⟩,fun e=>(by cases e),uX.out,hbe.trans (b3.mono hbe.size)⟩
    ·have hq:(xP x.1 k==0)=false:=by
      rcases En.VJ x.1 k with e | e | e
      ·rw[PG e];rfl
      ·exact absurd e he
      ·rw[PI e];rfl
     have HE:=Lib.hid he
     clear he
     generalize xP x.1 k=cq at*
     go_wp2_with fail
     refine(hc _).out.mono ?_
     rintro e w2 ⟨rfl,b3⟩
     go_wp2
     go_ret2
     exact⟨lo,false,rfl,hin,fun e=>(by cases e),fun _ h=>by rw[<-HX.out];exact HE.out,uX.out,hbe.trans (b3.mono hbe.size)⟩
   ·obtain rfl:lo=l.length:=by omega
    go_wp2
    go_ret2
    exact⟨l.length,false,rfl,hin,fun e=>(by cases e),fun _ h=>absurd h (by omega),uX.out,hbe⟩
theorem wH(A:Option Addr)(c:Nat)(l:List Ent)(k:ByteArray)(w:World)(hr:LS bD w w.heap.size A l)(hl:l.length<=1000000):
  Calls Tryz.prog 194 #[.slice A l.length c, .string k] w (aaz l k w):=by
 have hb:=ak (abl A c l k w hr hl)
 go_enter Tryz.func194,Tryz.ntmps194
 go_wp2_with fail
 refine hb.out.mono ?_
 rintro e w2 ⟨i,fd,rfl,h1,h2,h3,h4,h5⟩
 have H2:=Lib.hid h2
 have H3:=Lib.hid h3
 have H4:=Lib.hid h4
 clear h2 h3 h4
 go_wp2
 go_ret2
 exact⟨i,fd,rfl,h1,H2.out,H3.out,H4.out,h5⟩
end Go.Proofs.YteppebbmnojapaaGreatDoor
namespace En
structure Dl where
 key:Str
 old:Str
 new:Str
 was:Bool
 is:Bool
def nil:Str:=⟨#[]⟩
def adq(x:Ent):Dl:=⟨x.1,x.2,nil,true,false⟩
def dNew(x:Ent):Dl:=⟨x.1,nil,x.2,false,true⟩
def adr(x y:Ent):List Dl:=if eqs x.2 y.2 then []else [⟨x.1,x.2,y.2,true,true⟩]
def xQ:Nat->List Ent->List Ent->List Dl
 |_, [], []=> []
 |0,_,_=> []
 |n+1,x::a, []=>adq x::xQ n a []
 |n+1, [],y::b=>dNew y::xQ n [] b
 |n+1,x::a,y::b=>if lt x.1 y.1 then adq x::xQ n a (y::b)else if lt y.1 x.1 then dNew y::xQ n (x::a) b else adr x y++xQ n a b
def mergeD(a b:List Ent):List Dl:=xQ (a.length+b.length) a b
theorem get_none{l:List Ent}{k:Str}(h:∀x∈l,x.1≠k):get l k=none:=by
 unfold get
 rw[List.find?_eq_none.2]
 ·rfl
 ·intro x hx;rw[Np (h x hx)];simp
def keys(l:List Ent):List Str:=l.map (·.1)
def ap1(l:List Ent)(d:Dl):List Ent:=if right l then(if d.is then(if may d.key d.new then put l d.key d.new else l)else del l d.key)else l
def ap(l:List Ent)(d:List Dl):List Ent:=d.foldl ap1 l
theorem Ag(z:Ent)(c:List Ent):(ins z c).length=c.length+1:=by
 induction c with
 |nil=>rfl
 |cons u c ihc=>unfold ins;split<;>simp[ihc]
theorem Pn(l:List Ent)(k v:Str):(put l k v).length<=l.length+1:=by
 unfold put;rw[Ag]
 have:=List.length_filter_le (fun y:Ent=> !eqs y.1 k) l
 unfold del;omega
theorem G8(l:List Ent)(k:Str):(del l k).length<=l.length:=List.length_filter_le _ _
end En
namespace Go.Proofs.YteppebbmnojapaaGreatDoor
open Go.RowKit Go.Shelf
structure SV{α:Type}(E:Enc α)(w:World)(A:Option Addr)(c:Nat)(l:List α):Prop where
 ls:LS E w w.heap.size A l
 le:l.length<=c
 nil_:A=none->c=0
theorem SV.up{α:Type}{E:Enc α}{w w':World}{A:Option Addr}{c:Nat}{l:List α}(h:SV E w A c l)(hb:Below w.heap.size w w'):SV E w' A c l:=⟨h.ls.up hb,h.le,h.nil_⟩
theorem LO.sv{α:Type}{E:Enc α}{ty:TypeId}{w:World}{base n:Nat}{A:Option Addr}{c:Nat}{l:List α}(h:LO E ty w base (.slice A n c) l):SV E w A c l:=by
 refine⟨h.ls, ?_, ?_⟩
 ·rcases h.2 with⟨e,h0⟩ | ⟨g,cap,cur,e,_,_,hn,_⟩
  ·omega
  ·injection e with _ _ e3;subst e3;exact hn
 ·rintro rfl
  rcases h.2 with⟨e,h0⟩ | ⟨g,cap,cur,e,_⟩
  ·injection e
  ·injection e with e1;cases e1
def jh{α:Type}(E:Enc α)(o:List α)(w:World)(e:Ending)(w':World):Prop:=∃A c,e= .returned (.slice A o.length c)/\SV E w' A c o/\Below w.heap.size w w'
theorem jh.of_eq{α:Type}{E:Enc α}{o:List α}{w w':World}{A:Option Addr}{c n:Nat}(hn:o.length=n)(h:SV E w' A c o)(hb:Below w.heap.size w w'):jh E o w (.returned (.slice A n c)) w':=by subst hn;exact⟨A,c,rfl,h,hb⟩
theorem RD(l:List Ent)(i:Nat)(k v:ByteArray):((bD.cells l).set (i*2) (.string k)).set (i*2+1) (.string v)=bD.cells (l.set i (k,v)):=by
 induction l generalizing i with
 |nil=>simp[Enc.cells]
 |cons x l ih=>
  rw[bD.dB]
  have e:bD.enc x= [.string x.1, .string x.2]:=rfl
  rw[e]
  cases i with
  |zero=>simp[Enc.dB,bD]
  |succ i=>
   have h:=ih i
   rw[show(i+1)*2=i*2+1+1 by omega]
   simp only[List.cons_append,List.nil_append,List.set_cons_succ,h]
   rw[bD.dB];rfl
theorem Bg(W:World):(sizeOf (Tryz.prog.elem 22)).run Tryz.prog W= .ok 2 W:=by kernel_rfl
theorem G9:Tryz.prog.underlying 22=some (.slice (Tryz.prog.elem 22)):=by kernel_rfl
theorem VP(A:Option Addr)(n c i:Nat)(hi:i<=n)(hc:n<=c)(W:World):(Instr.slice 22 (.slice A n c) none (some (.int .i64 i)) (some (.int .i64 i))).run Tryz.prog W= .ok (.slice A i i) W:=by
 rw[run_slice_hm W 22 A n c G9 .i64 .i64 (i:Int) (i:Int) (by omega) (Int.le_refl _) (by omega),Bg]
 simp only[Result.andThen_ok,sliced,Int.toNat_natCast,Nat.zero_mul,Nat.sub_zero]
 have e:(if i=0 then A else A.map (·.add 0))=A:=by
  split
  ·rfl
  ·cases A<;>rfl
 rw[e]
theorem Bh(A:Option Addr)(n c i:Nat)(x:Int)(hx:x=i)(hi:i<=n)(W:World):(Instr.slice 22 (.slice A n c) (some (.int .i64 x)) none none).run Tryz.prog W= .ok (.slice (if c=i then A else A.map (·.add (i*2))) (n-i) (c-i)) W:=by
 subst hx
 rw[run_slice_l W 22 A n c G9 .i64 (i:Int) (by omega) (by omega),Bg]
 simp only[Result.andThen_ok,sliced,Int.toNat_natCast]
theorem SV.cut{w:World}{A:Option Addr}{c:Nat}{l:List Ent}(h:SV bD w A c l){i:Nat}(hi:i<=l.length):LS bD w w.heap.size (if c=i then A else A.map (·.add (i*2))) (l.drop i):=h.ls.cut hi h.le
theorem VQ(A:Option Addr)(c:Nat)(l:List Ent)(k v:ByteArray)(w:World)(hr:SV bD w A c l)(hl:l.length<=100000)(h:(En.right l&&En.may k v)=false):
  Calls Tryz.prog 123 #[.slice A l.length c, .string k, .string v] w (jh bD l w):=by
 have hR:=ak (lX A c l w hr.ls (by omega))
 cases hrt:En.right l with
 |false=>
  rw[hrt]at hR
  clear hrt h
  go_enter Tryz.func123,Tryz.ntmps123
  go_wp2_with fail
  refine hR.out.mono ?_
  rintro e w1 ⟨rfl,b1⟩
  go_wp2
  go_ret
  exact⟨A,c,rfl,hr.up b1,b1⟩
 |true=>
  rw[hrt]at hR h
  have hm:En.may k v=false:=by simpa using h
  have hC:=fun W=>ak (check_any k v W)
  rw[Nq hm]at hC
  clear hrt h hm
  go_enter Tryz.func123,Tryz.ntmps123
  go_wp2_with fail
  refine hR.out.mono ?_
  rintro e w1 ⟨rfl,b1⟩
  go_wp2_with fail
  refine(hC _).out.mono ?_
  rintro e w' ⟨rfl,hw⟩;subst hw
  go_wp2
  go_ret
  exact⟨A,c,rfl,hr.up b1,b1⟩
theorem VR(A:Option Addr)(c:Nat)(l:List Ent)(k v:ByteArray)(w:World)(hr:SV bD w A c l)(hl:l.length<=100000)(hrt:En.right l=true)(hm:En.may k v=true)(o:List Ent)(ho:o=En.put l k v):
  Calls Tryz.prog 123 #[.slice A l.length c, .string k, .string v] w (jh bD o w):=by
 have HO:=Lib.hid ho
 clear ho
 have hR:=ak (lX A c l w hr.ls (by omega))
 rw[hrt]at hR
 have hs:=((En.bF l).1 hrt).2
 have HS:=Lib.hid hs
 have hC:=fun W=>ak (check_any k v W)
 rw[Ad hm]at hC
 clear hrt hm hs
 have hF:=fun W h=>ak (wH A c l k W h (by omega))
 go_enter Tryz.func123,Tryz.ntmps123
 go_wp2_with fail
 refine hR.out.mono ?_
 rintro e w1 ⟨rfl,b1⟩
 have hr1:=hr.up b1
 go_wp2_with fail
 refine(hC _).out.mono ?_
 rintro e w' ⟨rfl,hw⟩;subst hw
 go_wp2_with fail
 refine(hF _ hr1.ls).out.mono ?_
 rintro e w2 ⟨i,fd,rfl,hi,hyes,hno,hlow,b2⟩
 have hr2:=hr1.up b2
 have bb:=b1.trans (b2.mono b1.size)
 have uX:=Lib.hid (hlow HS.out)
 clear hR hC hF hr1 hr b1 b2 hlow
 have hbX:=bb.alloc bb.size (.cells #[.string k, .string v] 101)
 have hbA:Below w2.heap.size w2 (w2.alloc (.cells #[.string k, .string v] 101)):=(Below.refl _ w2).alloc (Nat.le_refl _) _
 have hrX:=hr2.up hbA
 have hBX:=Blk.new w2 101 #[.string k, .string v]
 cases fd with
 |true=>
  obtain⟨hil,hik⟩:=hyes rfl
  have hp:=(En.G6 HS.out (k:=k) (v:=v) hi uX.out.1 uX.out.2).1 hil hik
  have HP:=Lib.hid hp.1
  have hCl:=fun W h=>ak (Nr A c l W (fun e=>by have h1:=hr2.nil_ e;have:=hr2.le;omega) h (by omega))
  have hlt':(i:Int)<l.length:=by omega
  clear hno hik hp hyes hr2 hbA
  go_wp2_with fail
  refine(hCl _ hrX.ls).out.mono ?_
  intro e w3 he
  obtain⟨A3,c3,rfl,ho3,_,b3⟩:=he.open_
  clear he hCl hrX
  have YX:=hBX.below b3 hBX.lt
  have bb3:=hbX.trans (b3.mono hbX.size)
  obtain⟨g3,c4,hv3,hg3,hlt3⟩:=World.ownsRow.form ho3 (by omega)
  injection hv3 with e1 e2 e3
  subst e1 e3
  clear e2
  obtain⟨g4,o4,e4,hg4,f0,f1⟩:=(ho3.ls).ent hil
  injection e4 with e4;injection e4 with e4 e5;subst e4 e5
  rw[Nat.zero_add]at f0 f1
  obtain⟨cur,hcur⟩:=fG ho3 (r:=g3) rfl
  have hgb:=(World.ownsRow.lt ho3 g3 rfl).1
  have hBc:Blk w3 g3 101 cur:=hcur
  have z0:=hBc.frozen (i*2)
  have z1:=hBc.frozen (i*2+1)
  have x0:=YX.cell 0
  have x1:=YX.cell 1
  have hltx:=YX.lt
  have hst:=(World.ownsRow.stored (World.ownsRow.stored ho3 (i*2) (.string k)).1 (i*2+1) (.string v)).1
  rw[RD]at hst
  have hset:LO bD 101 ((w3.setCell ⟨g3,i*2,none⟩ (.string k)).setCell ⟨g3,i*2+1,none⟩ (.string v)) (w2.alloc (.cells #[.string k, .string v] 101)).heap.size (.slice (some ⟨g3,0,none⟩) l.length c3) (l.set i (k,v)):=by
   unfold LO;rw[List.length_set];exact hst
  have hbe:=(bb3.setCell (p:=⟨g3,i*2,none⟩) (by show w.heap.size<=g3;have:=bb.size;simp at hgb;omega) (.string k)).setCell (p:=⟨g3,i*2+1,none⟩) (by show w.heap.size<=g3;have:=bb.size;simp at hgb;omega) (.string v)
  have hsl:(l.set i (k,v)).length=l.length:=List.length_set
  rw[HP.out]at hset hsl
  clear ho3 b3 YX hBX hBc hst HP
  go_wp2
  go_ret
  exact jh.of_eq (by rw[HO.out];exact hsl) (by rw[HO.out];exact hset.sv) hbe
 |false=>
  have hp:=(En.G6 HS.out (k:=k) (v:=v) hi uX.out.1 uX.out.2).2 (hno rfl)
  have HP:=Lib.hid hp.1
  have hs1:=VP A l.length c i hi hr2.le
  have hs2:=Bh A l.length c i (i:Int) rfl hi
  have hcut:=hr2.cut hi
  have hnil:=hr2.nil_
  have hle:=hr2.le
  generalize (if c=i then A else A.map (·.add (i*2)))=A2 at*
  clear hno hyes hp
  have hf1:(i:Int)<=l.length:=by omega
  have hS0:(w2.alloc (.cells #[.string k, .string v] 101)).drew.cell? ⟨w2.heap.size,0,none⟩=some (.string k)/\(w2.alloc (.cells #[.string k, .string v] 101)).drew.cell? ⟨w2.heap.size,1,none⟩=some (.string v):=⟨hBX.cell 0,hBX.cell 1⟩
  have hBY:=Blk.new (w2.alloc (.cells #[.string k, .string v] 101)) 101 #[.string k, .string v]
  have hBZ:=Blk.new ((w2.alloc (.cells #[.string k, .string v] 101)).alloc (.cells #[.string k, .string v] 101)) 22 #[.slice A i i, .slice (some ⟨w2.heap.size+1,0,none⟩) 1 1, .slice A2 (l.length-i) (c-i)]
  simp only[World.size_alloc]at hBY hBZ
  have bZ:Below w2.heap.size w2 (((w2.alloc (.cells #[.string k, .string v] 101)).alloc (.cells #[.string k, .string v] 101)).alloc (.cells #[.slice A i i, .slice (some ⟨w2.heap.size+1,0,none⟩) 1 1, .slice A2 (l.length-i) (c-i)] 22)).drew:=((((Below.refl _ w2).alloc (Nat.le_refl _) _).alloc (by simp) _).alloc (by simp;omega) _).drew
  have hS3:(((w2.alloc (.cells #[.string k, .string v] 101)).alloc (.cells #[.string k, .string v] 101)).alloc (.cells #[.slice A i i, .slice (some ⟨w2.heap.size+1,0,none⟩) 1 1, .slice A2 (l.length-i) (c-i)] 22)).drew.cell? ⟨w2.heap.size,0,none⟩=some (.string k)/\(((w2.alloc (.cells #[.string k, .string v] 101)).alloc (.cells #[.string k, .string v] 101)).alloc (.cells #[.slice A i i, .slice (some ⟨w2.heap.size+1,0,none⟩) 1 1, .slice A2 (l.length-i) (c-i)] 22)).drew.cell? ⟨w2.heap.size,1,none⟩=some (.string v):=
   ⟨((hBX.alloc _).alloc _).cell 0,((hBX.alloc _).alloc _).cell 1⟩
  have hS2:((w2.alloc (.cells #[.string k, .string v] 101)).alloc (.cells #[.string k, .string v] 101)).drew.cell? ⟨w2.heap.size,0,none⟩=some (.string k)/\((w2.alloc (.cells #[.string k, .string v] 101)).alloc (.cells #[.string k, .string v] 101)).drew.cell? ⟨w2.heap.size,1,none⟩=some (.string v):=
   ⟨(hBX.alloc _).cell 0,(hBX.alloc _).cell 1⟩
  have e1:(l.take i).length=i:=by rw[List.length_take];omega
  have hcl:ig [(A,i,l.take i),(some ⟨w2.heap.size+1,0,none⟩,1, [(k,v)]),(A2,c-i,l.drop i)]=l.take i++(k,v)::l.drop i:=by simp[ig]
  have hCc:=qR (w2.heap.size+1+1) 3 [(A,i,l.take i),(some ⟨w2.heap.size+1,0,none⟩,1, [(k,v)]),(A2,c-i,l.drop i)] rfl (by omega) (((w2.alloc (.cells #[.string k, .string v] 101)).alloc (.cells #[.string k, .string v] 101)).alloc (.cells #[.slice A i i, .slice (some ⟨w2.heap.size+1,0,none⟩) 1 1, .slice A2 (l.length-i) (c-i)] 22)).drew
   (by
    show Blk _ _ _ #[.slice A (l.take i).length i, .slice (some ⟨w2.heap.size+1,0,none⟩) 1 1, .slice A2 (l.drop i).length (c-i)]
    rw[e1,List.length_drop];exact hBZ)
   (by
    intro p hp
    simp only[List.mem_cons,List.not_mem_nil,or_false]at hp
    rcases hp with rfl | rfl | rfl
    ·exact(hr2.ls.mG i).up bZ
    ·refine⟨by simp[Enc.cells,bD],fun _=>⟨_,rfl,by simp,fun j u hu=> ?_⟩⟩
     rw[Addr.add_lit,Nat.zero_add]
     refine((hBY.alloc _).cell j).trans ?_
     simpa[Enc.cells,bD]using hu
    ·exact hcut.up bZ)
   (by rw[hcl,List.length_append,List.length_cons,List.length_drop,e1];omega)
  rw[hcl,HP.out]at hCc
  have HCC:=Lib.hid hCc
  clear hCc hcl e1 hcut hBY hBZ hr2 hrX hBX
  have hzz:w2.heap.size<(((w2.alloc (.cells #[.string k, .string v] 101)).alloc (.cells #[.string k, .string v] 101)).alloc (.cells #[.slice A i i, .slice (some ⟨w2.heap.size+1,0,none⟩) 1 1, .slice A2 (l.length-i) (c-i)] 22)).drew.heap.size:=by simp;omega
  go_wp2_with fail
  go_region_held3 (fun W=>W.cell? ⟨w2.heap.size,0,none⟩=some (.string k)/\W.cell? ⟨w2.heap.size,1,none⟩=some (.string v)) (first | exact hS0 | exact hS2 | exact hS3 | exact⟨(b9.cell (p:=⟨w2.heap.size,0,none⟩) hzz).trans hS3.1,(b9.cell (p:=⟨w2.heap.size,1,none⟩) hzz).trans hS3.2⟩)
   (first | (go_at_call 196;refine HCC.out.mono ?_;intro e w9 he;obtain⟨A9,c9,rfl,ho9,_,b9⟩:=he.open_))
  all_goals
   go_wp2
   go_ret
   exact jh.of_eq (by rw[HO.out]) (by rw[HO.out];exact ho9.sv) (bb.trans ((bZ.trans (b9.mono bZ.size)).mono bb.size))
def jl(l:List Ent)(k v:ByteArray):List Ent:=if En.right l&&En.may k v then En.put l k v else l
def delS(l:List Ent)(k:ByteArray):List Ent:=if En.right l then En.del l k else l
theorem VT(A:Option Addr)(c:Nat)(l:List Ent)(k v:ByteArray)(w:World)(hr:SV bD w A c l)(hl:l.length<=100000):
  Calls Tryz.prog 123 #[.slice A l.length c, .string k, .string v] w (jh bD (jl l k v) w):=by
 cases h:En.right l&&En.may k v with
 |false=>
  have e:jl l k v=l:=by unfold jl;rw[h];rfl
  rw[e];exact VQ A c l k v w hr hl h
 |true=>
  have h':En.right l=true/\En.may k v=true:=by simpa using h
  exact VR A c l k v w hr hl h'.1 h'.2 _ (by unfold jl;rw[h];rfl)
theorem VU(A:Option Addr)(c:Nat)(l:List Ent)(k:ByteArray)(w:World)(hr:SV bD w A c l)(hl:l.length<=100000):
  Calls Tryz.prog 124 #[.slice A l.length c, .string k] w (jh bD (delS l k) w):=by
 obtain⟨o,ho⟩:∃o,o=delS l k:=⟨_,rfl⟩
 rw[<-ho]
 have HO:=Lib.hid ho
 clear ho
 have hF:=ak (wH A c l k w hr.ls (by omega))
 have hR:=fun W h=>ak (lX A c l W h (by omega))
 cases hrt:En.right l with
 |false=>
  rw[hrt]at hR
  have hol:o=l:=by rw[HO.out];unfold delS;rw[hrt];rfl
  have HOL:=Lib.hid hol
  clear hrt hol HO
  go_enter Tryz.func124,Tryz.ntmps124
  go_wp2_with fail
  refine hF.out.mono ?_
  rintro e w1 ⟨i,fd,rfl,hi,hyes,hno,hlow,b1⟩
  have hr1:=hr.up b1
  clear hyes hno hlow hF
  cases fd with
  |false=>
   go_wp2
   go_ret
   exact jh.of_eq (by rw[HOL.out]) (by rw[HOL.out];exact hr1) b1
  |true=>
   go_wp2_with fail
   refine(hR _ hr1.ls).out.mono ?_
   rintro e w2 ⟨rfl,b2⟩
   go_wp2
   go_ret
   exact jh.of_eq (by rw[HOL.out]) (by rw[HOL.out];exact hr1.up b2) (b1.trans (b2.mono b1.size))
 |true=>
  rw[hrt]at hR
  have hs:=((En.bF l).1 hrt).2
  have hol:o=En.del l k:=by rw[HO.out];unfold delS;rw[hrt];rfl
  have HOL:=Lib.hid hol
  have HS:=Lib.hid hs
  clear hrt hol HO hs
  go_enter Tryz.func124,Tryz.ntmps124
  go_wp2_with fail
  refine hF.out.mono ?_
  rintro e w1 ⟨i,fd,rfl,hi,hyes,hno,hlow,b1⟩
  have hr1:=hr.up b1
  have uX:=Lib.hid (hlow HS.out)
  clear hlow hF
  cases fd with
  |false=>
   have hp:=(En.G6 HS.out (k:=k) (v:=k) hi uX.out.1 uX.out.2).2 (hno rfl)
   have HP:=Lib.hid hp.2
   clear hp hyes hno
   go_wp2
   go_ret
   exact jh.of_eq (by rw[HOL.out,HP.out]) (by rw[HOL.out,HP.out];exact hr1) b1
  |true=>
   obtain⟨hil,hik⟩:=hyes rfl
   have hp:=(En.G6 HS.out (k:=k) (v:=k) hi uX.out.1 uX.out.2).1 hil hik
   have HP:=Lib.hid hp.2
   clear hno hik hp hyes
   go_wp2_with fail
   refine(hR _ hr1.ls).out.mono ?_
   rintro e w2 ⟨rfl,b2⟩
   have hr2:=hr1.up b2
   have bb:=b1.trans (b2.mono b1.size)
   clear hR hr1 hr b1 b2
   have hs1:=VP A l.length c i hi hr2.le
   have hs2:=Bh A l.length c (i+1) ((i:Int)+1) (by omega) (by omega)
   have hcut:=hr2.cut (i:=i+1) (by omega)
   have hle:=hr2.le
   generalize (if c=i+1 then A else A.map (·.add ((i+1)*2)))=A2 at*
   have hf1:(i:Int)+1<=l.length:=by omega
   have hw1:IntKind.i64.wrap ((i:Int)+1)=(i:Int)+1:=IntWalk.i64_in _ (by omega)
   have hBZ:=Blk.new w2 22 #[.slice A i i, .slice A2 (l.length-(i+1)) (c-(i+1))]
   have bZ:Below w2.heap.size w2 (w2.alloc (.cells #[.slice A i i, .slice A2 (l.length-(i+1)) (c-(i+1))] 22)).drew:=((Below.refl _ w2).alloc (Nat.le_refl _) _).drew
   have e1:(l.take i).length=i:=by rw[List.length_take];omega
   have hcl:ig [(A,i,l.take i),(A2,c-(i+1),l.drop (i+1))]=l.take i++l.drop (i+1):=by simp[ig]
   have hCc:=qR w2.heap.size 2 [(A,i,l.take i),(A2,c-(i+1),l.drop (i+1))] rfl (by omega) (w2.alloc (.cells #[.slice A i i, .slice A2 (l.length-(i+1)) (c-(i+1))] 22)).drew
    (by
     show Blk _ _ _ #[.slice A (l.take i).length i, .slice A2 (l.drop (i+1)).length (c-(i+1))]
     rw[e1,List.length_drop];exact hBZ)
    (by
     intro p hp
     simp only[List.mem_cons,List.not_mem_nil,or_false]at hp
     rcases hp with rfl | rfl
     ·exact(hr2.ls.mG i).up bZ
     ·exact hcut.up bZ)
    (by rw[hcl,List.length_append,List.length_drop,e1];omega)
   rw[hcl,HP.out]at hCc
   have HCC:=Lib.hid hCc
   clear hCc hcl e1 hcut hBZ hr2
   go_wp2_with fail
   go_region_held3 (fun _=>True) (trivial)
    (first | (go_at_call 196;refine HCC.out.mono ?_;intro e w9 he;obtain⟨A9,c9,rfl,ho9,_,b9⟩:=he.open_))
   all_goals
    go_wp2
    go_ret
    exact jh.of_eq (by rw[HOL.out]) (by rw[HOL.out];exact ho9.sv) (bb.trans ((bZ.trans (b9.mono bZ.size)).mono bb.size))
end Go.Proofs.YteppebbmnojapaaGreatDoor
namespace Go.Proofs.YteppebbmnojapaaGreatDoor
open Go.RowKit
def abm(r:Bool):Int:=if r then 0 else 1
end Go.Proofs.YteppebbmnojapaaGreatDoor
namespace Nd
open En
structure Node where
 leaf:Bool
 ents:List Ent
 kids:List Int
 keys:List Str
def aG(l:List Ent):Node:=⟨true,l, [], []⟩
def ah(kids:List Int)(keys:List Str):Node:=⟨false, [],kids,keys⟩
def iG:Option Str->List Str->Bool
 |_, []=>true
 |p,k::l=>may k ⟨#[]⟩&&ahead p k&&iG (some k) l
def kM(i:Int):Bool:=decide (2<=i)&&decide (i<=4294967295)
def right(n:Node):Bool:=
 if n.leaf then En.right n.ents&&decide (n.kids.length+n.keys.length=0)
 else decide (n.ents.length=0)&&decide (n.keys.length+1=n.kids.length)&&n.kids.all kM&&iG none n.keys
def esz(x:Ent):Nat:=2+x.1.size+x.2.size
def aK(l:List Ent):Nat:=(l.map esz).sum
def ksz(k:Str):Nat:=5+k.size
def aF(l:List Str):Nat:=(l.map ksz).sum
def size(n:Node):Nat:=if n.leaf then aK n.ents else 4+aF n.keys
def fits(n:Node):Bool:=right n&&decide (size n<=240)
def kind(n:Node):Nat:=if n.leaf then 1 else 2
theorem eP{l:List Ent}{kids:List Int}{keys:List Str} :right ⟨true,l,kids,keys⟩=true ↔ En.right l=true/\kids= []/\keys= []:=by
 unfold right
 simp only[if_true,Bool.and_eq_true,decide_eq_true_eq]
 constructor
 ·rintro⟨h1,h2⟩
  exact⟨h1,List.eq_nil_of_length_eq_zero (by omega),List.eq_nil_of_length_eq_zero (by omega)⟩
 ·rintro⟨h1,rfl,rfl⟩;exact⟨h1,rfl⟩
theorem aY{l:List Ent}{kids:List Int}{keys:List Str} :right ⟨false,l,kids,keys⟩=true ↔ l= []/\keys.length+1=kids.length/\(∀i∈kids,2<=i/\i<=4294967295)/\iG none keys=true:=by
 unfold right
 simp only[Bool.false_eq_true,if_false,Bool.and_eq_true,decide_eq_true_eq,List.all_eq_true]
 constructor
 ·rintro⟨⟨⟨h1,h2⟩,h3⟩,h4⟩
  exact⟨List.eq_nil_of_length_eq_zero h1,h2,fun i hi=>by have:=h3 i hi;unfold kM at this;simpa using this,h4⟩
 ·rintro⟨rfl,h2,h3,h4⟩
  exact⟨⟨⟨rfl,h2⟩,fun i hi=>by have:=h3 i hi;unfold kM;simpa using this⟩,h4⟩
def tY(l:List Str):Prop:=l.Pairwise fun x y=>lt x y=true
theorem wI:∀ (l:List Str) (p:Option Str),iG p l=true ↔ (∀x∈l,may x ⟨#[]⟩=true)/\(∀y,p=some y->∀x∈l,lt y x=true)/\tY l
 | [],p=>by simp[iG,tY]
 |x::l,p=>by
  rw[iG,Bool.and_eq_true,Bool.and_eq_true,wI l (some x)]
  unfold tY
  rw[List.pairwise_cons]
  constructor
  ·rintro⟨⟨h1,h2⟩,h3,h4,h5⟩
   refine⟨fun y hy=> ?_,fun y hy z hz=> ?_,fun y hy=>h4 _ rfl y hy,h5⟩
   ·rcases List.mem_cons.1 hy with rfl | hy
    ·exact h1
    ·exact h3 y hy
   ·subst hy
    unfold ahead at h2;simp only at h2
    rcases List.mem_cons.1 hz with rfl | hz
    ·exact h2
    ·exact lt_trans h2 (h4 _ rfl z hz)
  ·rintro⟨h1,h2,h3,h4⟩
   refine⟨⟨h1 x List.mem_cons_self, ?_⟩,fun y hy=>h1 y (List.mem_cons_of_mem _ hy),fun y hy z hz=> ?_,h4⟩
   ·cases p with
    |none=>rfl
    |some y=>exact h2 y rfl x List.mem_cons_self
   ·injection hy with hy;subst hy;exact h3 z hz
theorem jd(l:List Str):iG none l=true ↔ (∀x∈l,may x ⟨#[]⟩=true)/\tY l:=by
 rw[wI]
 exact⟨fun h=>⟨h.1,h.2.2⟩,fun h=>⟨h.1,(fun y hy=>by cases hy),h.2⟩⟩
def yR(l:List Str)(k:Nat):Option Str:=if k=0 then none else l[k-1]?
theorem YZ(l:List Str)(k:Nat)(hk:k<l.length):iG (yR l k) (l.drop k)=(may l[k] ⟨#[]⟩&&ahead (yR l k) l[k]&&iG (yR l (k+1)) (l.drop (k+1))):=by
 rw[List.drop_eq_getElem_cons hk,iG]
 have e:yR l (k+1)=some l[k]:=by unfold yR;rw[if_neg (by omega)];simp[hk]
 rw[e]
theorem Ns(l:List Str)(k:Nat)(hk:k<l.length)(h0:0<k):yR l k=some (l[k-1]'(by omega)):=by
 unfold yR;rw[if_neg (by omega)];simp[show k-1<l.length by omega]
def text(s:Str):List UInt8:=UInt8.ofNat s.size::s.data.toList
def enc1(x:Ent):List UInt8:=text x.1++text x.2
def lH(l:List Ent):List UInt8:=l.flatMap enc1
def PK(x:Str × Int):List UInt8:=text x.1++Cp.be 4 x.2.toNat
def oM(keys:List Str)(kids:List Int):List UInt8:=(keys.zip kids).flatMap PK
def enc(n:Node):List UInt8:=if n.leaf then lH n.ents else Cp.be 4 (n.kids.headD 0).toNat++oM n.keys n.kids.tail
theorem gV(s:Str):(text s).length=1+s.size:=by
 unfold text;rw[List.length_cons,Array.length_toList,ByteArray.size_data];omega
theorem Jl(x:Ent):(enc1 x).length=esz x:=by
 unfold enc1 esz;rw[List.length_append,gV,gV];omega
theorem qU(l:List Ent):(lH l).length=aK l:=by
 induction l with
 |nil=>rfl
 |cons x l ih=>unfold lH aK at *;rw[List.flatMap_cons,List.length_append,ih,Jl,List.map_cons,List.sum_cons]
theorem yS:∀ (keys:List Str) (kids:List Int),keys.length=kids.length->(oM keys kids).length=aF keys
 | [],_,_=>rfl
 |k::ks,i::is,h=>by
  have ih:=yS ks is (by simpa using h)
  unfold oM aF PK at*
  rw[List.zip_cons_cons,List.flatMap_cons,List.length_append,ih,List.map_cons,List.sum_cons,List.length_append,gV,Cp.au]
  simp only[show ksz k=5+k.size from rfl]
  omega
 |_::_, [],h=>by simp at h
theorem uY{n:Node}(h:right n=true):(enc n).length=size n:=by
 obtain⟨leaf,ents,kids,keys⟩:=n
 cases leaf with
 |true=>unfold enc size;simp[qU]
 |false=>
  obtain⟨_,h2,_,_⟩:=aY.1 h
  unfold enc size
  simp only[Bool.false_eq_true,if_false,List.length_append,Cp.au]
  rw[yS _ _ (by rw[List.length_tail];omega)]
theorem jF(a b:List Ent):aK (a++b)=aK a+aK b:=by unfold aK;rw[List.map_append,List.sum_append]
theorem bK(a b:List Str):aF (a++b)=aF a+aF b:=by unfold aF;rw[List.map_append,List.sum_append]
theorem dD(x:Ent)(l:List Ent):aK (x::l)=esz x+aK l:=by unfold aK;rw[List.map_cons,List.sum_cons]
theorem gu(x:Str)(l:List Str):aF (x::l)=ksz x+aF l:=by unfold aF;rw[List.map_cons,List.sum_cons]
theorem qE(l:List Ent)(k:Nat)(hk:k<l.length):aK (l.take (k+1))=aK (l.take k)+esz l[k]:=by
 rw[List.take_succ_eq_append_getElem hk,jF];simp[aK]
theorem zN(l:List Str)(k:Nat)(hk:k<l.length):aF (l.take (k+1))=aF (l.take k)+ksz l[k]:=by
 rw[List.take_succ_eq_append_getElem hk,bK];simp[aF]
theorem iM(l:List Ent):2*l.length<=aK l:=by
 induction l with
 |nil=>simp[aK]
 |cons x l ih=>rw[dD,List.length_cons];unfold esz;omega
theorem sQ(l:List Str):5*l.length<=aF l:=by
 induction l with
 |nil=>simp[aF]
 |cons x l ih=>rw[gu,List.length_cons];unfold ksz;omega
theorem RF{l:List Ent}(h:∀x∈l,may x.1 x.2=true):aK l<=58*l.length:=by
 induction l with
 |nil=>simp[aK]
 |cons x l ih=>
  rw[dD,List.length_cons]
  have:=ih fun y hy=>h y (List.mem_cons_of_mem _ hy)
  have hm:=h x List.mem_cons_self
  unfold may at hm
  simp only[Bool.and_eq_true,decide_eq_true_eq]at hm
  unfold esz;omega
theorem xR{l:List Str}(h:∀x∈l,may x ⟨#[]⟩=true):aF l<=21*l.length:=by
 induction l with
 |nil=>simp[aF]
 |cons x l ih=>
  rw[gu,List.length_cons]
  have:=ih fun y hy=>h y (List.mem_cons_of_mem _ hy)
  have hm:=h x List.mem_cons_self
  unfold may at hm
  simp only[Bool.and_eq_true,decide_eq_true_eq]at hm
  unfold ksz;omega
def child:List Str->Str->Nat
 | [],_=>0
 |k::l,key=>if lt key k then 0 else child l key+1
theorem oN(l:List Str)(key:Str):child l key<=l.length:=by
 induction l with
 |nil=>simp[child]
 |cons k l ih=>unfold child;split;simp;simp;exact ih
theorem RG{l:List Str}(hs:tY l){key:Str}{i:Nat}(hi:i<=l.length)(h1:∀j (hj:j<l.length),j<i->lt key l[j]=false)(h2:∀j (hj:j<l.length),i<=j->lt key l[j]=true):child l key=i:=by
 induction l generalizing i with
 |nil=>simp at hi;subst hi;rfl
 |cons k l ih=>
  unfold child
  cases i with
  |zero=>
   have:=h2 0 (by simp) (Nat.le_refl _)
   simp only[List.getElem_cons_zero]at this
   rw[if_pos this]
  |succ i=>
   have:=h1 0 (by simp) (by omega)
   simp only[List.getElem_cons_zero]at this
   rw[if_neg (by rw[this];simp)]
   have hs2:tY l:=(List.pairwise_cons.1 hs).2
   rw[ih hs2 (i:=i) (by simpa using hi) (fun j hj hji=>by have:=h1 (j+1) (by simpa using hj) (by omega);simpa using this) (fun j hj hji=>by have:=h2 (j+1) (by simpa using hj) (by omega);simpa using this)]
def kN(all len:Nat):Nat->Nat->List Ent->Nat
 |_,_, []=>0
 |i,n,x::r=>if 0<i/\(all<=2*n\/i+1=len)then i else kN all len (i+1) (n+esz x) r
def half(l:List Ent):Nat:=kN (aK l) l.length 0 0 l
def split(n:Node):Option (Node × Str × Node):=
 if right n=false\/(n.ents.length<2/\n.kids.length<2)then none
 else if n.leaf then match n.ents[half n.ents]? with
  |none=>none
  |some x=>some (aG (n.ents.take (half n.ents)),x.1,aG (n.ents.drop (half n.ents)))
 else match n.keys[n.kids.length / 2-1]? with
  |none=>none
  |some k=>some (ah (n.kids.take (n.kids.length / 2)) (n.keys.take (n.kids.length / 2-1)),k,ah (n.kids.drop (n.kids.length / 2)) (n.keys.drop (n.kids.length / 2)))
def join(a:Node)(key:Str)(b:Node):Node:=
 if a.leaf != b.leaf then a
 else if a.leaf then⟨true,a.ents++b.ents,a.kids++b.kids,a.keys++b.keys⟩
 else⟨false,a.ents++b.ents,a.kids++b.kids,a.keys++ [key]++b.keys⟩
def swap(n:Node)(fr to_:Nat)(kids:List Int)(keys:List Str):Node:=
 if n.leaf=true\/n.kids.length<to_\/to_<=fr\/keys.length≠kids.length-1 then n
 else ah (n.kids.take fr++kids++n.kids.drop to_)
  (n.keys.take (if kids.length=0/\0<fr then fr-1 else fr)++keys++n.keys.drop (if kids.length=0/\fr=0 then min to_ n.keys.length else to_-1))
end Nd
namespace Go.Proofs.YteppebbmnojapaaGreatDoor
open Go.RowKit Go.Shelf
theorem PL(g:Nat)(r:Cp.Rd)(w:World)(h:Blk w g 372 (aH r)):Calls Tryz.prog 276 #[.pointer (some ⟨g,0,none⟩)] w fun e w'=>e= .returned (.int .i64 r.err)/\w'=w:=by
 have h1:w.cell? ⟨g,1,none⟩=some (.int .i64 r.err):=h.cell 1
 have hl:=h.lt
 go_enter Tryz.func276,Tryz.ntmps276
 go_wp2
 go_ret
 exact⟨rfl,rfl⟩
theorem RH(s:ByteArray)(hs:s.size<=255)(w:World):Calls Tryz.prog 192 #[.string s] w fun e w'=>e= .returned (.tuple #[.string ⟨(Nd.text s).toArray⟩, .int .i64 0])/\Below w.heap.size w w':=by
 have hc:=fun W x=>MH (P:=Tryz.prog) (src:=213) (dst:=9) W x 5 1 Tryz.underlying213 Tryz.underlying5 Tryz.underlying9
 have hx:(⟨[UInt8.ofNat ((s.size:Int)).toNat].toArray⟩:ByteArray)++s=⟨(Nd.text s).toArray⟩:=by
  rw[Int.toNat_natCast]
  apply ByteArray.ext
  simp[Nd.text]
 have HX:=Lib.hid hx
 clear hx
 go_enter Tryz.func192,Tryz.ntmps192
 go_wp2
 go_ret2
 exact⟨by rw[<-HX.out];rfl,(Below.refl _ _).alloc (Nat.le_refl _) _⟩
theorem VW(A:Option Addr)(c:Nat)(l:List Ent)(k:ByteArray)(w:World)(hr:LS bD w w.heap.size A l)(hl:l.length<=100000)(hrt:En.right l=true):
  Calls Tryz.prog 202 #[.slice A l.length c, .string k] w fun e w'=>e= .returned (match En.get l k with | some v=> .tuple #[.string v, .bool true] | none=> .tuple #[.string ⟨#[]⟩, .bool false])/\Below w.heap.size w w':=by
 have hf:=ak (wH A c l k w hr (by omega))
 have hRt:=fun W (h:LS bD W W.heap.size A l)=>lX A c l W h (by omega)
 rw[hrt]at hRt
 have hs:=((En.bF l).1 hrt).2
 have HS:=Lib.hid hs
 have HRT:=Lib.hid hRt
 obtain⟨o,ho⟩:∃o,o=En.get l k:=⟨_,rfl⟩
 rw[<-ho]
 have HO:=Lib.hid ho
 clear hs hRt ho hrt
 go_enter Tryz.func202,Tryz.ntmps202
 go_wp2_with fail
 refine hf.out.mono ?_
 rintro e w2 ⟨i,fd,rfl,h1,h2,h3,h4,h5⟩
 cases fd with
 |true=>
  obtain⟨hi,hk⟩:=h2 rfl
  have hr2:=hr.up h5
  have hg:o=some l[i].2:=by
   rw[HO.out]
   have hf':l.find? (fun x=>En.eqs x.1 k)=some l[i]:=by
    refine List.find?_eq_some_iff_getElem.2 ⟨En.wE.2 hk,i,hi,rfl,fun j hj=> ?_⟩
    rw[Bool.not_eq_true',En.oL]
    have:=List.pairwise_iff_getElem.1 HS.out j i (by omega) hi hj
    rw[hk]at this
    exact En.Bf this
   unfold En.get
   rw[hf']
   rfl
  obtain⟨v,hv⟩:∃v,v=l[i].2:=⟨_,rfl⟩
  rw[<-hv]at hg
  subst hg
  have hcon:=HRT.out w2 hr2
  clear h2 h3 h4 HO
  go_wp2_with fail
  refine Calls.mono hcon ?_
  rintro e w3 ⟨rfl,h6⟩
  obtain⟨b,off,rfl,hb,_,g1⟩:=(hr2.up h6).ent hi
  rw[<-hv]at g1
  clear hv
  go_wp2
  go_ret2
  exact⟨rfl,h5.trans (h6.mono h5.size)⟩
 |false=>
  have hn:o=none:=by
   rw[HO.out]
   have hf':l.find? (fun x=>En.eqs x.1 k)=none:=by
    refine List.find?_eq_none.2 fun x hx=> ?_
    simp only[En.wE]
    intro e
    obtain⟨j,hj,rfl⟩:=List.getElem_of_mem hx
    have hl:=h4 HS.out
    by_cases hji:j<i
    ·have:=hl.1 j hj hji
     rw[e,En.lt_irrefl]at this;cases this
    ·by_cases hje:j=i
     ·subst hje;exact h3 rfl hj e
     ·have h6:=List.pairwise_iff_getElem.1 HS.out i j (by omega) hj (by omega)
      have h7:=hl.2 i (by omega) (Nat.le_refl _)
      rw[e]at h6
      rw[h7]at h6;cases h6
   unfold En.get
   rw[hf']
   rfl
  subst hn
  clear h2 h3 h4 HO
  go_wp2
  go_ret2
  exact⟨rfl,h5⟩
theorem VX{α:Type}(E:Enc α)(W:World)(ty:TypeId)(l:List α)(cs:Array Value)(hc:cs.toList=E.cells l)(B:Nat)(hB:W.heap.size<B):LS E (W.alloc (.cells cs ty)) B (some ⟨W.heap.size,0,none⟩) l:=by
 refine⟨by rw[Enc.dR],fun _=>⟨_,rfl,by simpa using hB,fun j u hu=> ?_⟩⟩
 rw[Addr.add_lit,Nat.zero_add,(Blk.new W ty _).cell j, <-Array.getElem?_toList,hc]
 exact hu
theorem uw(l:List Ent)(k:Nat):Nd.aK (l.take k)<=Nd.aK l:=by
 have:=Nd.jF (l.take k) (l.drop k)
 rw[List.take_append_drop]at this
 omega
theorem VY(x:Ent):Nd.esz x=2+x.1.size+x.2.size:=rfl
theorem xU(A:Option Addr)(c:Nat)(l:List Ent)(w:World)(hr:LS bD w w.heap.size A l)(hl:l.length<=100000)(hs:Nd.aK l<=1000000000):
  Calls Tryz.prog 303 #[.slice A l.length c] w fun e w'=>e= .returned (.int .i64 (Nd.aK l:Nat))/\Below w.heap.size w w':=by
 have hT:=Lib.hid (fun k=>uw l k)
 obtain⟨o,ho⟩:∃o,o=Nd.aK l:=⟨_,rfl⟩
 rw[<-ho]
 rw[<-ho]at hs
 have HO:=Lib.hid ho
 clear ho
 go_enter Tryz.func303,Tryz.ntmps303
 go_wp2
 go_loopw [3,8] (fun n i wr=>∃ (k m:Nat),k<=l.length/\i= .int .i64 k/\n= .int .i64 m/\Hid (m=Nd.aK (l.take k))/\Below w.heap.size w wr) (fun _ i _=>l.length-(intOf i).toNat)
 case atStart=>exact⟨0,0,by omega,rfl,rfl,Lib.hid (by simp[Nd.aK]),Below.refl _ _⟩
 case round=>
  obtain⟨k,m,hk,rfl,rfl,HM,hbe⟩:=hrel
  by_cases hlt:k<l.length
  ·obtain⟨b2,o2,rfl,hb2,g0,g1⟩:=(hr.below hbe).ent hlt
   have h1:=Nd.qE l k hlt
   have h2:=hT.out (k+1)
   rw[<-HO.out,h1, <-HM.out,VY]at h2
   have H1:=Lib.hid h1
   clear h1
   obtain⟨x,hx⟩:∃x,x=l[k]:=⟨_,rfl⟩
   rw[<-hx]at g0 g1 h2
   obtain⟨x1,x2⟩:=x
   have HX:=Lib.hid hx
   clear hx
   simp only at g0 g1 h2
   have hb2':b2<wr.heap.size:=by have:=hbe.size;omega
   have q1:0<=(x1.size:Int)/\0<=(x2.size:Int):=⟨by omega,by omega⟩
   go_wp2
   go_roundw
   case rel=>
    refine⟨k+1,m+(2+x1.size+x2.size),by omega,by go_num, ?_,Lib.hid ?_,hbe.alloc hbe.size _⟩
    ·go_num
    ·rw[H1.out, <-HM.out, <-HX.out,VY]
   case measure=>simp[intOf];omega
  ·obtain rfl:k=l.length:=by omega
   go_wp2
   go_ret
   refine⟨?_,hbe⟩
   have hm:m=o:=by rw[HM.out,HO.out,List.take_length]
   subst hm
   rfl
theorem Y0(all len:Nat)(i n:Nat)(l:List Ent)(k:Nat)(hk:k<l.length):Nd.kN all len i n (l.drop k)=if 0<i/\(all<=2*n\/i+1=len)then i else Nd.kN all len (i+1) (n+Nd.esz l[k]) (l.drop (k+1)):=by
 rw[List.drop_eq_getElem_cons hk,Nd.kN]
theorem RI(A:Option Addr)(c:Nat)(l:List Ent)(w:World)(hr:LS bD w w.heap.size A l)(hl:l.length<=100000)(hs:Nd.aK l<=1000000000):
  Calls Tryz.prog 299 #[.slice A l.length c] w fun e w'=>e= .returned (.int .i64 (Nd.half l:Nat))/\Below w.heap.size w w':=by
 have hT:=Lib.hid (fun k=>uw l k)
 have hS:=ak (xU A c l w hr hl hs)
 have HS:=Lib.hid (fun W A c x h1 h2 h3=>xU A c x W h1 h2 h3)
 obtain⟨o,ho⟩:∃o,o=Nd.half l:=⟨_,rfl⟩
 rw[<-ho]
 have HO:=Lib.hid ho
 clear ho
 obtain⟨all,hall⟩:∃a,a=Nd.aK l:=⟨_,rfl⟩
 rw[<-hall]at hs hS
 have Y1:=Lib.hid hall
 clear hall
 go_enter Tryz.func299,Tryz.ntmps299
 go_wp2_with fail
 refine hS.out.mono ?_
 rintro e w1 ⟨rfl,b1⟩
 have hr1:=hr.up b1
 clear hS
 go_wp2
 go_loopw [4,11] (fun n i wr=>∃ (k m:Nat),k<=l.length/\i= .int .i64 k/\n= .int .i64 m/\Hid (m=Nd.aK (l.take k))/\Hid (Nd.half l=Nd.kN all l.length k m (l.drop k))/\Below w1.heap.size w1 wr) (fun _ i _=>l.length-(intOf i).toNat)
 case atStart=>exact⟨0,0,by omega,rfl,rfl,Lib.hid (by simp[Nd.aK]),Lib.hid (by rw[Y1.out];rfl),Below.refl _ _⟩
 case round=>
  obtain⟨k,m,hk,rfl,rfl,HM,HH,hbe⟩:=hrel
  by_cases hlt:k<l.length
  ·obtain⟨b2,o2,rfl,hb2,g0,g1⟩:=(hr1.below hbe).ent hlt
   have h1:=Nd.qE l k hlt
   have h2:=hT.out (k+1)
   have hat:=Lib.hid (Y0 all l.length k m l k hlt)
   rw[<-Y1.out,h1, <-HM.out]at h2
   have H1:=Lib.hid h1
   clear h1
   obtain⟨x,hx⟩:∃x,x=l[k]:=⟨_,rfl⟩
   rw[<-hx]at g0 g1 h2
   have HX:=Lib.hid hx
   clear hx
   have hb2':b2<wr.heap.size:=by have:=hbe.size;omega
   have hone:=HS.out ((wr.alloc (.cells #[.string x.1, .string x.2] 101)).alloc (.cells #[.string x.1, .string x.2] 101)) (some ⟨wr.heap.size+1,0,none⟩) 1 [x]
   have ads:=Lib.hid hone
   clear hone
   by_cases hstop:0<k/\(all<=2*m\/k+1=l.length)
   ·have hc:=hat.out
    rw[if_pos hstop]at hc
    have HC:=Lib.hid hc
    clear hc
    obtain⟨s1,s2⟩:=hstop
    have d1:decide (0<(k:Int))=true:=by simp;omega
    by_cases s3:all<=2*m
    ·have d2:decide ((all:Int)<=2*m)=true:=by simp;omega
     clear s2 s3
     go_wp2
     go_ret
     exact⟨by rw[HO.out,HH.out,HC.out];rfl,b1.trans ((hbe.alloc hbe.size _).mono b1.size)⟩
    ·have d2:decide ((all:Int)<=2*m)=false:=by simp;omega
     have s4:k+1=l.length:=by omega
     have d3:((k:Int)==l.length-1)=true:=by rw[beq_iff_eq];omega
     clear s2 s3 s4
     go_wp2
     go_ret
     exact⟨by rw[HO.out,HH.out,HC.out];rfl,b1.trans ((hbe.alloc hbe.size _).mono b1.size)⟩
   ·have hc:=hat.out
    rw[if_neg hstop]at hc
    have HC:=Lib.hid hc
    clear hc
    have VZ:=hbe.alloc hbe.size (.cells #[.string x.1, .string x.2] 101)
    have hes:Nd.aK [x]=Nd.esz x:=by simp[Nd.aK]
    have hz:Nd.esz x<=1000000000:=by omega
    have hcall:Calls Tryz.prog 303 #[.slice (some ⟨wr.heap.size+1,0,none⟩) 1 1] ((wr.alloc (.cells #[.string x.1, .string x.2] 101)).alloc (.cells #[.string x.1, .string x.2] 101)) fun e w'=>e= .returned (.int .i64 (Nd.esz x:Nat))/\Below (wr.heap.size+2) ((wr.alloc (.cells #[.string x.1, .string x.2] 101)).alloc (.cells #[.string x.1, .string x.2] 101)) w':=by
     have:=ads.out (by have:=VX bD (wr.alloc (.cells #[.string x.1, .string x.2] 101)) 101 [x] #[.string x.1, .string x.2] (by rw[Enc.cells_one];rfl) (wr.heap.size+2) (by simp);simpa using this) (by simp) (by rw[hes];exact hz)
     rw[hes]at this
     simpa using this
    have uy:=Lib.hid hcall
    have aaA:∀w3,Below (wr.heap.size+2) ((wr.alloc (.cells #[.string x.1, .string x.2] 101)).alloc (.cells #[.string x.1, .string x.2] 101)) w3->Below w1.heap.size w1 w3:=fun w3 h=>(VZ.alloc (by have:=VZ.size;omega) _).trans (h.mono (by have:=hbe.size;simp;omega))
    have adt:=Lib.hid aaA
    have hz2:m+Nd.esz x<=1000000000:=by omega
    have HZ:Hid (Nd.esz x=Nd.esz l[k]):=Lib.hid (by rw[HX.out])
    clear hcall aaA hes ads h2
    generalize Nd.esz x=z at*
    by_cases s1:0<k
    ·have d1:decide (0<(k:Int))=true:=by simp;omega
     have s2:¬all<=2*m:=fun h=>hstop ⟨s1, .inl h⟩
     have s3:¬k+1=l.length:=fun h=>hstop ⟨s1, .inr h⟩
     have d2:decide ((all:Int)<=2*m)=false:=by simp;omega
     have d3:((k:Int)==l.length-1)=false:=by rw[beq_eq_false_iff_ne];omega
     clear s2 s3 hstop
     go_wp2_with fail
     refine uy.out.mono ?_
     rintro e w3 ⟨rfl,b3⟩
     have hb4:=adt.out w3 b3
     clear b3
     go_wp2
     go_roundw
     case rel=>exact⟨k+1,m+z,by omega,by go_num,by go_num,Lib.hid (by rw[H1.out, <-HM.out,HZ.out]),Lib.hid (by rw[HH.out,HC.out,HZ.out]),hb4⟩
     case measure=>simp[intOf];omega
    ·have d1:decide (0<(k:Int))=false:=by simp;omega
     obtain rfl:k=0:=by omega
     simp only[Nat.zero_mul,Nat.add_zero]at g0 g1
     clear s1 hstop
     go_wp2_with fail
     refine uy.out.mono ?_
     rintro e w3 ⟨rfl,b3⟩
     have hb4:=adt.out w3 b3
     clear b3
     go_wp2
     go_roundw
     case rel=>exact⟨0+1,m+z,by omega,by go_num,by go_num,Lib.hid (by rw[H1.out, <-HM.out,HZ.out]),Lib.hid (by rw[HH.out,HC.out,HZ.out]),hb4⟩
     case measure=>simp[intOf];omega
  ·obtain rfl:k=l.length:=by omega
   go_wp2
   go_ret
   refine⟨?_,b1.trans (hbe.mono b1.size)⟩
   rw[HO.out,HH.out,List.drop_of_length_le (Nat.le_refl _)];rfl
end Go.Proofs.YteppebbmnojapaaGreatDoor
namespace Nd
open En
def fK(r:Cp.Rd):List UInt8 × Cp.Rd:=(r.int 1).2.bytes ((r.int 1).1:Nat)
def str(l:List UInt8):Str:=⟨l.toArray⟩
theorem Bj(s:Str):str s.data.toList=s:=by unfold str;apply ByteArray.ext;simp
def more(r:Cp.Rd):Prop:=0<r.rest.length/\r.err=0
instance (r:Cp.Rd):Decidable (more r):=by unfold more;infer_instance
def wJ(r:Cp.Rd):Bool:=r.rest.isEmpty&&r.err==0
def oO:Nat->Cp.Rd->List Ent->Cp.Rd × List Ent
 |0,r,l=>(r,l)
 |f+1,r,l=>if more r then oO f (fK (fK r).2).2 (l++ [(str (fK r).1,str (fK (fK r).2).1)])else(r,l)
def Jm(s:List UInt8):Option (List Ent):=
 if wJ (oO (s.length+1) ⟨s,0⟩ []).1&&En.right (oO (s.length+1) ⟨s,0⟩ []).2 then some (oO (s.length+1) ⟨s,0⟩ []).2 else none
theorem xW{r:Cp.Rd}(n:Int)(h:r.err≠0):r.bytes n=([],r):=by
 unfold Cp.Rd.bytes Cp.Rd.fail
 simp[h]
theorem EY{r:Cp.Rd}(n:Int)(h:(r.bytes n).2.err=0):(r.bytes n).2.rest=r.rest.drop n.toNat/\n<=r.rest.length/\0<=n:=by
 unfold Cp.Rd.bytes Cp.Rd.fail at*
 by_cases h1:n<0
 ·simp only[if_pos h1]at h
  by_cases h2:r.err=0
  ·simp[h2]at h
  ·simp[h2]at h
 ·by_cases h3:(r.rest.length:Int)<n
  ·simp only[if_neg h1,if_pos h3]at h
   by_cases h2:r.err=0
   ·simp[h2]at h
   ·simp[h2]at h
  ·simp only[if_neg h1,if_neg h3]at h ⊢
   by_cases h2:r.err=0
   ·simp only[if_pos h2];exact⟨trivial,by omega,by omega⟩
   ·simp[h2]at h
def mu(r:Cp.Rd):Nat:=if r.err=0 then r.rest.length+1 else 0
theorem Jo{r:Cp.Rd}(h:r.err=0):mu (fK r).2<mu r:=by
 unfold mu
 rw[if_pos h]
 split
 ·rename_i h2
  unfold fK at h2 ⊢
  have h3:=EY _ h2
  have h4:(r.int 1).2.err=0:=by
   refine Classical.byContradiction fun hn=> ?_
   rw[xW _ hn]at h2
   exact hn h2
  have h5:=EY (r:=r) (1:Nat) h4
  rw[h3.1,List.length_drop]
  have h6:((r.int 1).2.rest).length=r.rest.length-1:=by
   show((r.bytes (1:Nat)).2.rest).length=_
   rw[h5.1,List.length_drop];rfl
  rw[h6]
  have:=h5.2.1
  omega
 ·omega
theorem Jp(r:Cp.Rd):mu (fK r).2<=mu r:=by
 by_cases h:r.err=0
 ·exact Nat.le_of_lt (Jo h)
 ·have e:(r.int 1).2=r:=by show(r.bytes _).2=r;rw[xW _ h]
  unfold fK
  rw[e,xW _ h]
  exact Nat.le_refl _
theorem EZ{f:Nat}{r:Cp.Rd}{l:List Ent}(h:¬more r):oO f r l=(r,l):=by
 cases f with
 |zero=>rfl
 |succ f=>rw[oO,if_neg h]
theorem V3(s:Str)(hs:s.size<=255):Cp.num [UInt8.ofNat s.size]=s.size:=by
 have e:Cp.num [UInt8.ofNat s.size]=(UInt8.ofNat s.size).toNat:=by simp[Cp.num]
 rw[e,UInt8.toNat_ofNat']
 omega
theorem xX(s:Str)(hs:s.size<=255)(tl:List UInt8):fK ⟨text s++tl,0⟩=(s.data.toList,⟨tl,0⟩):=by
 have e1:Cp.Rd.int ⟨text s++tl,0⟩ 1=(s.size,⟨s.data.toList++tl,0⟩):=by
  unfold text
  rw[Cp.og rfl (by simp)]
  simp only[List.cons_append,List.take_succ_cons,List.take_zero,List.drop_succ_cons,List.drop_zero]
  rw[V3 s hs]
 unfold fK
 rw[e1]
 have hl:s.data.toList.length=s.size:=by rw[Array.length_toList,ByteArray.size_data]
 simp only
 rw[Cp.wB rfl (by simp)]
 simp only
 rw[List.take_left' hl,List.drop_left' hl]
theorem wK{x:Ent}(h:may x.1 x.2=true):0<x.1.size/\x.1.size<=255/\x.2.size<=255:=by
 unfold may at h
 simp only[Bool.and_eq_true,decide_eq_true_eq]at h
 omega
theorem E5:∀ (l:List Ent) (f:Nat) (acc:List Ent),(∀x∈l,may x.1 x.2=true)->l.length<=f->oO f ⟨lH l,0⟩ acc=(⟨[],0⟩,acc++l)
 | [],f,acc,_,_=>by rw[EZ (by unfold more lH;simp)];simp[lH]
 |x::l,0,acc,_,h=>by simp at h
 |x::l,f+1,acc,hm,h=>by
  have hx:=wK (hm x List.mem_cons_self)
  have e:lH (x::l)=text x.1++(text x.2++lH l):=by unfold lH enc1;rw[List.flatMap_cons,List.append_assoc]
  have hmore:more ⟨lH (x::l),0⟩:=⟨by show 0<(lH (x::l)).length;rw[e,List.length_append,gV];omega,rfl⟩
  rw[oO,if_pos hmore,e,xX _ hx.2.1]
  simp only
  rw[xX _ hx.2.2]
  simp only
  rw[E5 l f _ (fun y hy=>hm y (List.mem_cons_of_mem _ hy)) (by simp at h;omega),Bj,Bj,List.append_assoc]
  rfl
theorem V4{l:List Ent}(h:En.right l=true):Jm (lH l)=some l:=by
 have hm:=((En.bF l).1 h).1
 have hl:l.length<=(lH l).length+1:=by rw[qU];have:=iM l;omega
 unfold Jm
 rw[E5 l _ [] hm hl]
 simp[wJ,h]
theorem Jq(i:Int)(h1:2<=i)(h2:i<=4294967295)(tl:List UInt8):Cp.Rd.int ⟨Cp.be 4 i.toNat++tl,0⟩ 4=(i.toNat,⟨tl,0⟩):=by
 have hl:(Cp.be 4 i.toNat).length=4:=Cp.au _ _
 rw[Cp.og rfl (by show 4<=(Cp.be 4 i.toNat++tl).length;rw[List.length_append];omega)]
 show(Cp.num ((Cp.be 4 i.toNat++tl).take 4),(⟨(Cp.be 4 i.toNat++tl).drop 4,0⟩:Cp.Rd))=_
 rw[List.take_left' hl,List.drop_left' hl,Cp.eu (by omega)]
end Nd
namespace Go.Proofs.YteppebbmnojapaaGreatDoor
open Go.RowKit Go.Shelf
def encS(l:List Ent):List UInt8:=if En.right l then Nd.lH l else []
theorem Ah(a b:List UInt8):Nd.str a++Nd.str b=Nd.str (a++b):=by unfold Nd.str;apply ByteArray.ext;simp
theorem Bl(l:List Ent)(k:Nat)(hk:k<l.length):Nd.lH (l.take (k+1))=Nd.lH (l.take k)++(Nd.text l[k].1++Nd.text l[k].2):=by
 rw[List.take_succ_eq_append_getElem hk]
 unfold Nd.lH
 rw[List.flatMap_append]
 simp[Nd.enc1]
theorem oP(l:List UInt8):(Nd.str l).size=l.length:=by unfold Nd.str;rfl
theorem xY(s:ByteArray)(hs:s.size<=255)(w:World):Calls Tryz.prog 192 #[.string s] w fun e w'=>e= .returned (.tuple #[.string (Nd.str (Nd.text s)), .int .i64 0])/\Below w.heap.size w w':=RH s hs w
theorem yT(A:Option Addr)(c:Nat)(l:List Ent)(w:World)(hr:LS bD w w.heap.size A l)(hl:l.length<=100000):
  Calls Tryz.prog 121 #[.slice A l.length c] w fun e w'=>e= .returned (.tuple #[.string (Nd.str (encS l)), .int .i64 (abm (En.right l))])/\Below w.heap.size w w':=by
 have hR:=ak (lX A c l w hr (by omega))
 cases hrt:En.right l with
 |false=>
  rw[hrt]at hR
  have he:Nd.str (encS l)=⟨#[]⟩:=by unfold encS;rw[hrt];rfl
  rw[he]
  clear hrt he
  go_enter Tryz.func121,Tryz.ntmps121
  go_wp2_with fail
  refine hR.out.mono ?_
  rintro e w1 ⟨rfl,b1⟩
  go_wp2
  go_ret2
  exact⟨rfl,b1⟩
 |true=>
  rw[hrt]at hR
  have he:Nd.str (encS l)=Nd.str (Nd.lH l):=by unfold encS;rw[hrt];rfl
  rw[he]
  obtain⟨R,hRR⟩:∃R,R=Nd.str (Nd.lH l):=⟨_,rfl⟩
  rw[<-hRR]
  have HRR:=Lib.hid hRR
  have hmay:=((En.bF l).1 hrt).1
  have HM:=Lib.hid hmay
  clear hrt hmay he hRR
  go_enter Tryz.func121,Tryz.ntmps121
  go_wp2_with fail
  refine hR.out.mono ?_
  rintro e w1 ⟨rfl,b1⟩
  have hr1:=hr.up b1
  clear hR
  go_wp2
  go_loopw [4,16] (fun s i wr=>∃ (k:Nat) (S:ByteArray),k<=l.length/\i= .int .i64 k/\s= .string S/\Hid (S=Nd.str (Nd.lH (l.take k)))/\S.size<=100*k/\Below w1.heap.size w1 wr) (fun _ i _=>l.length-(intOf i).toNat)
  case atStart=>exact⟨0,⟨#[]⟩,by omega,rfl,rfl,Lib.hid rfl,by simp[ByteArray.size],Below.refl _ _⟩
  case round=>
   obtain⟨k,S,hk,rfl,rfl,HSV,hS,hbe⟩:=hrel
   by_cases hlt:k<l.length
   ·obtain⟨b2,o2,rfl,hb2,g0,g1⟩:=(hr1.below hbe).ent hlt
    have hm:=HM.out _ (List.getElem_mem hlt)
    have htk:=Lib.hid (Bl l k hlt)
    obtain⟨x,hx⟩:∃x,x=l[k]:=⟨_,rfl⟩
    rw[<-hx]at g0 g1 hm
    have HX:=Lib.hid hx
    clear hx
    unfold En.may at hm
    simp only[Bool.and_eq_true,decide_eq_true_eq]at hm
    obtain⟨⟨m1,m2⟩,m3⟩:=hm
    have hSx:Hid (S++(Nd.str (Nd.text x.1)++Nd.str (Nd.text x.2))=Nd.str (Nd.lH (l.take (k+1)))):=Lib.hid (by rw[htk.out,HSV.out,Ah,Ah, <-HX.out])
    have z1:(Nd.str (Nd.text x.1)).size<=17:=by rw[oP,Nd.gV];omega
    have z2:(Nd.str (Nd.text x.2)).size<=41:=by rw[oP,Nd.gV];omega
    have t1:=fun W=>ak (xY x.1 (by omega) W)
    have t2:=fun W=>ak (xY x.2 (by omega) W)
    generalize Nd.str (Nd.text x.1)=S1 at*
    generalize Nd.str (Nd.text x.2)=S2 at*
    have hb2':b2<wr.heap.size:=by have:=hbe.size;omega
    go_wp2_with fail
    refine(t1 _).out.mono ?_
    rintro e w2 ⟨rfl,hb3⟩
    have hbx:=Blk.new wr 101 #[.string x.1, .string x.2]
    have hby:=hbx.below hb3 hbx.lt
    have y1:=hby.cell 1
    have hly:=hby.lt
    have VZ:=(hbe.alloc hbe.size (.cells #[.string x.1, .string x.2] 101)).trans (hb3.mono (by have:=hbe.size;simp;omega))
    clear hbx hby hb3
    go_wp2_with fail
    refine(t2 _).out.mono ?_
    rintro e w3 ⟨rfl,hb3⟩
    have nY:=VZ.trans (hb3.mono VZ.size)
    clear hb3
    have hsz:(S.size:Int)+((S1.size:Int)+S2.size)<=1000000000:=by omega
    have hsz2:(S1.size:Int)+S2.size<=1000000000:=by omega
    go_wp2
    go_roundw
    case rel=>exact⟨k+1,_,by omega,by go_num,rfl,hSx,by rw[ByteArray.size_append,ByteArray.size_append];omega,nY⟩
    case measure=>simp[intOf];omega
   ·obtain rfl:k=l.length:=by omega
    go_wp2
    go_ret2
    refine⟨?_,b1.trans (hbe.mono b1.size)⟩
    have hs:S=R:=by rw[HSV.out,HRR.out,List.take_length]
    rw[hs];rfl
theorem uZ(g:Nat)(r:Cp.Rd)(w:World)(h:Blk w g 372 (aH r)):
  Calls Tryz.prog 277 #[.pointer (some ⟨g,0,none⟩)] w fun e w'=>e= .returned (.string (Nd.str (Nd.fK r).1))/\Blk w' g 372 (aH (Nd.fK r).2)/\w.grownBy w' (some g):=by
 have hi:=fH g r 1 w h (.inl rfl)
 have hb:=fun W (hW:Blk W g 372 (aH (r.int 1).2))=>jR g (r.int 1).2 ((r.int 1).1:Nat) W hW
 have e1:(Cp.Rd.bytes (r.int 1).2 ((r.int 1).1:Nat))=Nd.fK r:=rfl
 rw[e1]at hb
 change ∀W,_->Calls Tryz.prog _ _ W (fun e w'=>e= .returned (.string (Nd.str (Nd.fK r).1))/\_)at hb
 generalize Nd.fK r=o at*
 obtain⟨o1,o2⟩:=o
 simp only at hb ⊢
 generalize Nd.str o1=S at*
 generalize (r.int 1).1=n at*
 generalize (r.int 1).2=r1 at*
 have HI:=Lib.hid hi
 have HB:=Lib.hid hb
 clear hi hb e1
 go_enter Tryz.func277,Tryz.ntmps277
 go_wp2_with fail
 refine Calls.mono HI.out ?_
 rintro e w1 ⟨rfl,hB1,hg1⟩
 go_wp2_with fail
 refine Calls.mono (HB.out w1 hB1) ?_
 rintro e w2 ⟨rfl,hB2,hg2⟩
 go_wp2
 go_ret
 exact⟨rfl,hB2,hg1.trans hg2⟩
theorem qm(g:Nat)(r:Cp.Rd)(w:World)(h:Blk w g 372 (aH r)):Calls Tryz.prog 275 #[.pointer (some ⟨g,0,none⟩)] w fun e w'=>e= .returned (.int .i64 r.rest.length)/\w'=w:=by
 have h0:=h.cell 0
 simp only[aH]at h0
 go_enter Tryz.func275,Tryz.ntmps275
 go_wp2
 go_ret
 exact⟨rfl,rfl⟩
theorem abn(s:List UInt8):((Nd.str s).toList.isEmpty)=s.isEmpty:=by
 rw[size_empty,oP];cases s<;>simp
theorem sS(g:Nat)(r:Cp.Rd)(w:World)(h:Blk w g 372 (aH r)):Calls Tryz.prog 219 #[.pointer (some ⟨g,0,none⟩)] w fun e w'=>∃x:Int,e= .returned (.int .i64 x)/\(x==0)=Nd.wJ r/\Below w.heap.size w w':=by
 have h0:=h.cell 0
 have h1:=h.cell 1
 have hl:=h.lt
 simp only[aH]at h0 h1
 have hse:=abn r.rest
 unfold Nd.str at hse
 by_cases he:r.rest= []
 ·have e1:(⟨r.rest.toArray⟩:ByteArray)=⟨#[]⟩:=by rw[he]
  rw[e1]at h0
  have hok:(r.err==0)=Nd.wJ r:=by unfold Nd.wJ;rw[he];simp
  have HOK:=Lib.hid hok
  clear hse hok he e1
  go_enter Tryz.func219,Tryz.ntmps219
  go_wp2
  go_ret
  exact⟨_,rfl,HOK.out,Below.refl _ _⟩
 ·have hne:(⟨r.rest.toArray⟩:ByteArray).toList.isEmpty=false:=by rw[hse];cases hr:r.rest with
   |nil=>exact absurd hr he
   |cons a b=>rfl
  have hok:Nd.wJ r=false:=by unfold Nd.wJ;cases hr:r.rest with
   |nil=>exact absurd hr he
   |cons a b=>rfl
  have hf:=fun W (hW:Blk W w.heap.size 372 (aH ⟨[],r.err⟩))=>AX w.heap.size ⟨[],r.err⟩ 11 W hW
  have hx:((Cp.Rd.fail ⟨[],r.err⟩ 11).err==0)=false:=by unfold Cp.Rd.fail;split<;>simp_all
  have HX:=Lib.hid hx
  have HOK:=Lib.hid hok
  have HF:=Lib.hid hf
  generalize (⟨r.rest.toArray⟩:ByteArray)=S at*
  clear hse hok he hf hx
  go_enter Tryz.func219,Tryz.ntmps219
  go_wp2_with fail
  refine Calls.mono (HF.out _ (Blk.new w 372 (aH ⟨[],r.err⟩))) ?_
  rintro e w1 ⟨rfl,hB,hg⟩
  have c1:=hB.cell 1
  have hl1:=hB.lt
  have hb1:Below w.heap.size w w1:=((Below.refl _ _).alloc (Nat.le_refl _) _).grown hg (by simp) (fun k e=>by cases e;exact Nat.le_refl _)
  simp only[aH]at c1
  generalize (Cp.Rd.fail ⟨[],r.err⟩ 11).err=x at*
  clear hB hg
  go_wp2
  go_ret
  exact⟨_,rfl,by rw[HX.out,HOK.out],hb1⟩
def sliceLen:Value->Nat
 | .slice _ n _=>n
 |_=>0
def edl(o:Option (List Ent)):List Ent:=o.getD []
def edx(o:Option (List Ent)):Int:=if o.isSome then 0 else 3
def adu(l:List Ent)(x:Int)(w:World)(e:Ending)(w':World):Prop:=
 ∃A c,e= .returned (.tuple #[.slice A l.length c, .int .i64 x])/\LO bD 101 w' w.heap.size (.slice A l.length c) l/\Below w.heap.size w w'
theorem xZ{α:Type}{E:Enc α}(w:World):SV E w none 0 []:=⟨LS.nil_,by simp,fun _=>rfl⟩
theorem Jr(s:List UInt8)(w:World)(hs:s.length<=50000):
  Calls Tryz.prog 274 #[.string (Nd.str s)] w (adu (edl (Nd.Jm s)) (edx (Nd.Jm s)) w):=by
 obtain⟨ol,hol⟩:∃o,o=edl (Nd.Jm s):=⟨_,rfl⟩
 obtain⟨ox,hox⟩:∃o,o=edx (Nd.Jm s):=⟨_,rfl⟩
 rw[<-hol, <-hox]
 have HOL:=Lib.hid hol
 have HOX:=Lib.hid hox
 clear hol hox
 go_enter Tryz.func274,Tryz.ntmps274
 go_wp2_with fail
 refine(mM s _).mono ?_
 rintro e w1 ⟨rfl,hw1⟩
 have hB0:Blk w1 w.heap.size 372 (aH ⟨s,0⟩):=by rw[hw1];exact Blk.new _ _ _
 have hb0:Below w.heap.size w w1:=by rw[hw1];exact(Below.refl _ _).alloc (Nat.le_refl _) _
 clear hw1
 have hz1:w.heap.size<w1.heap.size:=hB0.lt
 go_wp2
 go_loopw [5] (fun v wr=>∃ (f:Nat) (r:Cp.Rd) (l:List Ent),Hid (Nd.oO (s.length+1) ⟨s,0⟩ []=Nd.oO f r l)/\f+l.length=s.length+1/\Nd.mu r<=f/\LO bD 101 wr w1.heap.size v l/\Blk wr w.heap.size 372 (aH r)/\Below w.heap.size w wr/\w1.heap.size<=wr.heap.size) (fun v _=>s.length+1-sliceLen v)
 case atStart=>exact⟨s.length+1,⟨s,0⟩, [],Lib.hid rfl,by simp,by unfold Nd.mu;simp,LO.nil_ _ _,hB0,hb0,Nat.le_refl _⟩
 case round=>
  obtain⟨f,r,l,HD,hf,hmu,hown,hB,hb,hz⟩:=hrel
  obtain⟨A,c,rfl⟩:=hown.form
  have hle:l.length<=50001:=by omega
  have HL:=ak (qm w.heap.size r wr hB)
  have HE:=ak (PL w.heap.size r wr hB)
  have hlt0:=hB.lt
  by_cases hm:Nd.more r
  ·obtain⟨m1,m2⟩:=hm
   have hmu2:=Nd.Jo m2
   have afS:=Nd.Jp (Nd.fK r).2
   obtain⟨f,rfl⟩:∃f',f=f'+1:=⟨f-1,by omega⟩
   have hd:Nd.oO (f+1) r l=Nd.oO f (Nd.fK (Nd.fK r).2).2 (l++ [(Nd.str (Nd.fK r).1,Nd.str (Nd.fK (Nd.fK r).2).1)]):=by rw[Nd.oO,if_pos ⟨m1,m2⟩]
   rw[m2]at HE
   have HT1:=Lib.hid (fun W h=>uZ w.heap.size r W h)
   have HT2:=Lib.hid (fun W h=>uZ w.heap.size (Nd.fK r).2 W h)
   have adv:Nd.mu (Nd.fK (Nd.fK r).2).2<=f:=by omega
   clear hmu hmu2 afS
   generalize Nd.str (Nd.fK r).1=S1 at*
   generalize (Nd.fK r).2=r1 at*
   generalize Nd.str (Nd.fK r1).1=S2 at*
   generalize (Nd.fK r1).2=r2 at*
   have HDD:=Lib.hid hd
   have HM:=Lib.hid adv
   clear hd adv m2
   generalize r.rest.length=n at*
   go_wp2_with fail
   refine HL.out.mono ?_
   rintro e _ ⟨rfl,rfl⟩
   go_wp2_with fail
   refine HE.out.mono ?_
   rintro e _ ⟨rfl,rfl⟩
   go_wp2_with fail
   refine(HT1.out _ hB).mono ?_
   rintro e w4 ⟨rfl,hB4,hg4⟩
   go_wp2_with fail
   refine(HT2.out _ hB4).mono ?_
   rintro e w5 ⟨rfl,hB5,hg5⟩
   have Nu:=hg4.trans hg5
   have hne:(Value.slice A l.length c).ownBlock≠some w.heap.size:=fun e=>by have:=(World.ownsRow.lt hown _ e).1;omega
   have hown5:w5.ownsRow w1.heap.size 101 2 (.slice A l.length c) l.length (bD.cells l):=World.ownsRow.kept hown Nu (.inr hne)
   have hz5:w1.heap.size<=w5.heap.size:=Nat.le_trans hz Nu.size
   have hb5:Below w.heap.size w w5:=hb.grown Nu hb.size (fun k e=>by cases e;exact Nat.le_refl _)
   go_wp2_with (at_builtin;refine aU rfl _ _ 22 rfl EU Tryz.underlying22 rfl (by decide) rfl hown5 rfl (by simp) rfl (by simp[Value.oneCell']) (by unfold maxLen;omega) (by omega) hz5 ?_;intro v' w6 hown' hgrow hbel _ _)
   have hsn:=LO.snoc (E:=bD) (x:=(S1,S2)) rfl rfl rfl hown'
   obtain⟨A2,c2,rfl⟩:=hsn.form
   go_roundw
   case rel=>exact⟨f,r2,_,Lib.hid (HD.out.trans HDD.out),by simp;omega,HM.out,hsn,hB5.below hbel hz1,hb5.trans (hbel.mono (by omega)),Nat.le_trans hz5 hbel.size⟩
   case measure=>simp[sliceLen];omega
  ·have hd:=Nd.EZ (f:=f) (l:=l) hm
   have aZ:=ak (sS w.heap.size r wr hB)
   have hsl:=hown.ls
   have hsv:=LO.lower hown (Nat.le_of_lt hz1)
   have HR:=Lib.hid (fun W h=>lX A c l W h (by omega))
   have hdec:Nd.Jm s=if Nd.wJ r&&En.right l then some l else none:=by unfold Nd.Jm;rw[HD.out,hd]
   have RJ:=Lib.hid hdec
   clear hd hdec
   have hcase:(r.rest.length=0)\/(0<r.rest.length/\(r.err==0)=false):=by
    by_cases h0:r.rest.length=0
    ·exact .inl h0
    ·exact .inr ⟨by omega,by rw[beq_eq_false_iff_ne];exact fun h1=>hm ⟨by omega,h1⟩⟩
   clear hm hmu
   cases hok:Nd.wJ r with
   |false=>
    have he1:Hid (ol= []):=Lib.hid (by rw[HOL.out,RJ.out,hok,Bool.false_and];rfl)
    have he2:Hid (ox=3):=Lib.hid (by rw[HOX.out,RJ.out,hok,Bool.false_and];rfl)
    rcases hcase with h0 | ⟨h0,h1⟩
    ·rw[h0]at HL
     go_wp2_with fail
     refine HL.out.mono ?_
     rintro e _ ⟨rfl,rfl⟩
     go_wp2_with fail
     refine aZ.out.mono ?_
     rintro e w3 ⟨x,rfl,hx,hb3⟩
     rw[hok]at hx
     have hx2:¬x=0:=by simpa using hx
     have hx3:(x != 0)=true:=by simpa using hx
     clear hx
     go_wp2
     go_ret2
     rw[he1.out,he2.out]
     exact⟨none,0,rfl,LO.nil_ _ _,hb.trans (hb3.mono hb.size)⟩
    ·generalize r.rest.length=n at*
     go_wp2_with fail
     refine HL.out.mono ?_
     rintro e _ ⟨rfl,rfl⟩
     go_wp2_with fail
     refine HE.out.mono ?_
     rintro e _ ⟨rfl,rfl⟩
     go_wp2_with fail
     refine aZ.out.mono ?_
     rintro e w3 ⟨x,rfl,hx,hb3⟩
     rw[hok]at hx
     have hx2:¬x=0:=by simpa using hx
     have hx3:(x != 0)=true:=by simpa using hx
     clear hx
     go_wp2
     go_ret2
     rw[he1.out,he2.out]
     exact⟨none,0,rfl,LO.nil_ _ _,hb.trans (hb3.mono hb.size)⟩
   |true=>
    cases hrt:En.right l with
    |false=>
     have he1:Hid (ol= []):=Lib.hid (by rw[HOL.out,RJ.out,hok,hrt];rfl)
     have he2:Hid (ox=3):=Lib.hid (by rw[HOX.out,RJ.out,hok,hrt];rfl)
     rcases hcase with h0 | ⟨h0,h1⟩
     ·rw[h0]at HL
      go_wp2_with fail
      refine HL.out.mono ?_
      rintro e _ ⟨rfl,rfl⟩
      go_wp2_with fail
      refine aZ.out.mono ?_
      rintro e w3 ⟨x,rfl,hx,hb3⟩
      rw[hok]at hx
      obtain rfl:x=0:=by simpa using hx
      have hbr:=hb.trans (hb3.mono hb.size)
      have hr3:=hsl.up hb3
      have Bo:=hsv.below hb3
      have HR3:=HR.out w3 hr3
      rw[hrt]at HR3
      have HR4:=Lib.hid HR3
      clear HR3
      go_wp2_with fail
      refine Calls.mono HR4.out ?_
      rintro e w4 ⟨rfl,hb4⟩
      go_wp2
      go_ret2
      rw[he1.out,he2.out]
      exact⟨none,0,rfl,LO.nil_ _ _,hbr.trans (hb4.mono hbr.size)⟩
     ·generalize r.rest.length=n at*
      go_wp2_with fail
      refine HL.out.mono ?_
      rintro e _ ⟨rfl,rfl⟩
      go_wp2_with fail
      refine HE.out.mono ?_
      rintro e _ ⟨rfl,rfl⟩
      go_wp2_with fail
      refine aZ.out.mono ?_
      rintro e w3 ⟨x,rfl,hx,hb3⟩
      rw[hok]at hx
      obtain rfl:x=0:=by simpa using hx
      have hbr:=hb.trans (hb3.mono hb.size)
      have hr3:=hsl.up hb3
      have Bo:=hsv.below hb3
      have HR3:=HR.out w3 hr3
      rw[hrt]at HR3
      have HR4:=Lib.hid HR3
      clear HR3
      go_wp2_with fail
      refine Calls.mono HR4.out ?_
      rintro e w4 ⟨rfl,hb4⟩
      go_wp2
      go_ret2
      rw[he1.out,he2.out]
      exact⟨none,0,rfl,LO.nil_ _ _,hbr.trans (hb4.mono hbr.size)⟩
    |true=>
     have he1:Hid (ol=l):=Lib.hid (by rw[HOL.out,RJ.out,hok,hrt];rfl)
     have he2:Hid (ox=0):=Lib.hid (by rw[HOX.out,RJ.out,hok,hrt];rfl)
     rcases hcase with h0 | ⟨h0,h1⟩
     ·rw[h0]at HL
      go_wp2_with fail
      refine HL.out.mono ?_
      rintro e _ ⟨rfl,rfl⟩
      go_wp2_with fail
      refine aZ.out.mono ?_
      rintro e w3 ⟨x,rfl,hx,hb3⟩
      rw[hok]at hx
      obtain rfl:x=0:=by simpa using hx
      have hbr:=hb.trans (hb3.mono hb.size)
      have hr3:=hsl.up hb3
      have Bo:=hsv.below hb3
      have HR3:=HR.out w3 hr3
      rw[hrt]at HR3
      have HR4:=Lib.hid HR3
      clear HR3
      go_wp2_with fail
      refine Calls.mono HR4.out ?_
      rintro e w4 ⟨rfl,hb4⟩
      go_wp2
      go_ret2
      rw[he1.out,he2.out]
      exact⟨A,c,rfl,Bo.below hb4,hbr.trans (hb4.mono hbr.size)⟩
     ·generalize r.rest.length=n at*
      go_wp2_with fail
      refine HL.out.mono ?_
      rintro e _ ⟨rfl,rfl⟩
      go_wp2_with fail
      refine HE.out.mono ?_
      rintro e _ ⟨rfl,rfl⟩
      go_wp2_with fail
      refine aZ.out.mono ?_
      rintro e w3 ⟨x,rfl,hx,hb3⟩
      rw[hok]at hx
      obtain rfl:x=0:=by simpa using hx
      have hbr:=hb.trans (hb3.mono hb.size)
      have hr3:=hsl.up hb3
      have Bo:=hsv.below hb3
      have HR3:=HR.out w3 hr3
      rw[hrt]at HR3
      have HR4:=Lib.hid HR3
      clear HR3
      go_wp2_with fail
      refine Calls.mono HR4.out ?_
      rintro e w4 ⟨rfl,hb4⟩
      go_wp2
      go_ret2
      rw[he1.out,he2.out]
      exact⟨A,c,rfl,Bo.below hb4,hbr.trans (hb4.mono hbr.size)⟩
def V5(id:Int)(s:List UInt8):Prop:=s.length=256/\(Cp.num ((s.drop 4).take 4):Int)≠id
theorem V6{id:Int}(h:id≠0):V5 id Bc:=by
 have e:Cp.num ((Bc.drop 4).take 4)=0:=by decide +kernel
 refine⟨List.length_replicate, ?_⟩
 rw[e]
 exact fun a=>h a.symm
theorem Js(id:Int)(s:List UInt8)(hs:V5 id s)(w:World)(hT:HT w):
  Calls Tryz.prog 308 #[.int .i64 id, .string ⟨s.toArray⟩] w (ql 0 [] 3 w):=by
 obtain⟨hsl,hne⟩:=hs
 have hCk:=fun W hT=>Ba s hsl W hT
 have h1:=fun g W h=>fH g ⟨s,0⟩ 4 W h (by omega)
 rw[Cp.og rfl (by show 4<=s.length;omega)]at h1
 have h2:=fun g W h=>fH g ⟨s.drop 4,0⟩ 4 W h (by omega)
 rw[Cp.og rfl (by show 4<=(s.drop 4).length;rw[List.length_drop];omega)]at h2
 have h3:=fun g r W h=>fH g r 1 W h (by omega)
 have h5:=fun g r W h=>fH g r 2 W h (by omega)
 have h6:=fun g r (k:Nat) W h=>jR g r (k:Int) W h
 generalize decide ((Cp.num (s.take 4):Int)=(Cc.sum (s.drop 4):Int))=c at*
 have hne2:((Cp.num ((s.drop 4).take 4):Int) != id)=true:=by simpa using hne
 simp only at h1 h2
 generalize Cp.num (s.take 4)=nC at*
 generalize Cp.num ((s.drop 4).take 4)=nI at*
 generalize (⟨s.drop 4,0⟩:Cp.Rd)=r1 at*
 generalize (⟨(s.drop 4).drop 4,0⟩:Cp.Rd)=r2 at*
 have H1:=Lib.hid h1
 have H2:=Lib.hid h2
 have H3:=Lib.hid h3
 have H5:=Lib.hid h5
 have H6:=Lib.hid h6
 have HC:=Lib.hid hCk
 clear h1 h2 h3 h5 h6 hCk hsl hne
 go_enter Tryz.func308,Tryz.ntmps308
 go_wp2_with fail
 refine Calls.mono (mM s _) ?_
 rintro e w1 ⟨rfl,rfl⟩
 have b0:=Blk.new w 372 (aH ⟨s,0⟩)
 have hbw0:Below w.heap.size w (w.alloc (.cells (aH ⟨s,0⟩) 372)):=(Below.refl _ _).alloc (Nat.le_refl _) _
 go_wp2_with fail
 refine Calls.mono (H1.out _ _ b0) ?_
 rintro e w1 ⟨rfl,b1,g1⟩
 have wu:=hbw0.grown g1 hbw0.size (fun k e=>by cases e;exact Nat.le_refl _)
 clear b0 hbw0 g1
 go_wp2_with fail
 refine Calls.mono (H2.out _ _ b1) ?_
 rintro e w2 ⟨rfl,b2,g2⟩
 have hbw2:=wu.grown g2 wu.size (fun k e=>by cases e;exact Nat.le_refl _)
 clear b1 wu g2
 go_wp2_with fail
 refine Calls.mono (H3.out _ _ _ b2) ?_
 rintro e w3 ⟨rfl,b3,g3⟩
 have hbw3:=hbw2.grown g3 hbw2.size (fun k e=>by cases e;exact Nat.le_refl _)
 clear b2 hbw2 g3
 generalize (r2.int 1).1=nK at*
 generalize (r2.int 1).2=r3 at*
 go_wp2_with fail
 refine Calls.mono (H3.out _ _ _ b3) ?_
 rintro e w4 ⟨rfl,b4,g4⟩
 have kJ:=hbw3.grown g4 hbw3.size (fun k e=>by cases e;exact Nat.le_refl _)
 clear b3 hbw3 g4
 generalize (r3.int 1).1=nZ at*
 generalize (r3.int 1).2=r4 at*
 go_wp2_with fail
 refine Calls.mono (H5.out _ _ _ b4) ?_
 rintro e w5 ⟨rfl,b5,g5⟩
 have AZ:=kJ.grown g5 kJ.size (fun k e=>by cases e;exact Nat.le_refl _)
 clear b4 kJ g5
 generalize (r4.int 2).1=nL at*
 generalize (r4.int 2).2=r5 at*
 go_wp2_with fail
 refine Calls.mono (H6.out _ _ 4 _ b5) ?_
 rintro e w6 ⟨rfl,b6,g6⟩
 have qP:=AZ.grown g6 AZ.size (fun k e=>by cases e;exact Nat.le_refl _)
 clear b5 AZ g6
 generalize (r5.bytes ((4:Nat):Int)).1=sG at*
 generalize (r5.bytes ((4:Nat):Int)).2=r6 at*
 go_wp2_with fail
 refine Calls.mono (H6.out _ _ nL _ b6) ?_
 rintro e w7 ⟨rfl,b7,g7⟩
 have D9:=qP.grown g7 qP.size (fun k e=>by cases e;exact Nat.le_refl _)
 clear b6 qP g7
 generalize (r6.bytes (nL:Int)).1=sB at*
 generalize (r6.bytes (nL:Int)).2=r7 at*
 go_wp2_with fail
 refine Calls.mono (qm _ _ _ b7) ?_
 rintro e w8 ⟨rfl,rfl⟩
 generalize r7.rest.length=lr at*
 go_wp2_with fail
 refine Calls.mono (H6.out _ _ lr _ b7) ?_
 rintro e w9 ⟨rfl,b9,g9⟩
 have GX:=D9.grown g9 D9.size (fun k e=>by cases e;exact Nat.le_refl _)
 clear b7 D9 g9
 generalize (r7.bytes (lr:Int)).1=sR at*
 generalize (r7.bytes (lr:Int)).2=r9 at*
 have hT9:=hT.below GX hT.1
 go_wp2_with fail
 refine Calls.mono (HC.out _ hT9) ?_
 rintro e w10 ⟨rfl,b10⟩
 have hb9:=b9.below b10 b9.lt
 have wC:=GX.trans (b10.mono GX.size)
 clear b9 b10 GX hT9
 cases c with
 |false=>
  go_wp2
  refine bodyPost_ret (v:= .tuple #[.int .u8 0, .string ⟨#[]⟩, .int .i64 3]) (by simp[results,Tryz.results308,go_sem]) rfl ⟨rfl,wC⟩
 |true=>
  go_wp2_with fail
  refine Calls.mono (sS _ _ _ hb9) ?_
  rintro e w11 ⟨x,rfl, -,Jt⟩
  have aaB:=wC.trans (Jt.mono wC.size)
  clear Jt wC hb9
  by_cases hx:x=0
  ·subst hx
   go_wp2
   refine bodyPost_ret (v:= .tuple #[.int .u8 0, .string ⟨#[]⟩, .int .i64 3]) (by simp[results,Tryz.results308,go_sem]) rfl ⟨rfl,aaB⟩
  ·have hx2:(x != 0)=true:=by simpa using hx
   go_wp2
   refine bodyPost_ret (v:= .tuple #[.int .u8 0, .string ⟨#[]⟩, .int .i64 3]) (by simp[results,Tryz.results308,go_sem]) rfl ⟨rfl,aaB⟩
def iH(D:Dk)(id:Int)(o:Option (Nat × Bs)):Prop:=(V5 id (D.get id)/\o=none)\/∃k b,k<256/\b.length<=240/\D.get id=Pg.page id.toNat k b/\o=some (k,b)
def frB(n:Nat)(down:Bool)(id:Int)(kind:Nat)(o:Option (Nat × Bs)):Bs × Int:=
 if aS n id then([],40)else if down then([],4)else match o with
 |none=>([],3)
 |some (k,b)=>if k=kind then(b,0)else([],3)
def Dk.bG(D:Dk)(id:Int):Dk:=if aS D.sure.length id then D else if D.down then D else { D with reads:=D.reads+1 }
def fO(w w':World):Prop:=∀ (m:Nat) (o:Obj),w.heap[m]? =some o->o.isCells=false->w'.heap[m]? =some o
def aaC(B f d k:Nat)(x:Bs × Int)(D':Dk)(w:World)(e:Ending)(w':World):Prop:=e= .returned (.tuple #[str x.1, .int .i64 x.2])/\FAt w' B f d k D'/\Below B w w'/\Kept w w'/\fO w w'/\w'.cell? ⟨d,1,none⟩=w.cell? ⟨d,1,none⟩
theorem fO.refl(w:World):fO w w:=fun _ _ h _=>h
theorem fO.trans{a b c:World}(h:fO a b)(h2:fO b c):fO a c:=fun m o hm hc=>h2 m o (h m o hm hc) hc
theorem fO.below{w w':World}(hb:Below w.heap.size w w'):fO w w':=fun m _ h _=>(hb.block m (Array.getElem?_eq_some_iff.1 h).1).trans h
theorem fO.grown{w w':World}{d:Nat}{ty:TypeId}{cs:Array Value}(hd:Blk w d ty cs)(hg:w.grownBy w' (some d)):fO w w':=fun m o h hc=>
 (hg.block m (Array.getElem?_eq_some_iff.1 h).1 (fun e=>by
  have e:=Option.some.inj e
  subst e
  have:=h.symm.trans hd
  cases this
  cases hc)).trans h
theorem Kept.grown{w w':World}{d:Nat}{cs:Array Value}(hd:Blk w d 117 cs)(hg:w.grownBy w' (some d)):Kept w w':=fun _ _ _ hb h1 _=>hb.grown hg (fun e=>hb.ne_ hd h1 (Option.some.inj e))
theorem RN{w:World}{B f d k:Nat}{D:Dk}(h:FAt w B f d k D)(hF:Fine D)(hT:HT w)(hB0:1<B)(hB:B<=w.heap.size)(id:Int)(kind:Nat)(o:Option (Nat × Bs))(ho:aS D.sure.length id=false->D.down=false->iH D id o):
  Calls Tryz.prog 273 #[.pointer (some ⟨f,0,none⟩), .int .i64 id, .int .u8 kind] w (aaC B f d k (frB D.sure.length D.down id kind o) (D.bG id) w):=by
 have hpg:=xO h id
 have hf:=h.self.cell 0
 have hself:=h.self
 have Nv:=h.le
 cases hno:aS D.sure.length id with
 |true=>
  have e1:frB D.sure.length D.down id kind o=([],40):=by unfold frB;rw[hno];rfl
  have e2:D.bG id=D:=by unfold Dk.bG;rw[hno];rfl
  rw[e1,e2]
  rw[hno]at hpg
  clear e1 e2 ho
  go_enter Tryz.func273,Tryz.ntmps273
  go_wp2_with fail
  refine Calls.mono hpg ?_
  rintro e w1 ⟨rfl,rfl⟩
  go_wp2
  go_ret2
  exact⟨rfl,h,Below.refl _ _,Kept.refl _,fO.refl _,rfl⟩
 |false=>
  rw[hno]at hpg
  have hb2:¬id<2/\¬ (D.sure.length:Int)<=id:=by simpa[aS]using hno
  have hat:=at_eq hno
  have hn:=hF.n
  cases hdn:D.down with
  |true=>
   have e1:frB D.sure.length true id kind o=([],4):=by unfold frB;rw[hno];rfl
   have e2:D.bG id=D:=by unfold Dk.bG;rw[hno,hdn];rfl
   rw[e1,e2]
   rw[hdn]at hat
   have hr:=Ja h.disk id (by rw[hat];decide)
   rw[hat]at hr
   clear e1 e2 ho hat
   unfold str at hr
   go_enter Tryz.func273,Tryz.ntmps273
   go_wp2_with fail
   refine Calls.mono hpg ?_
   rintro e w1 ⟨rfl,rfl⟩
   go_wp2_with fail
   refine Calls.mono hr ?_
   rintro e w2 ⟨rfl,rfl⟩
   go_wp2
   go_ret2
   exact⟨rfl,h,Below.refl _ _,Kept.refl _,fO.refl _,rfl⟩
  |false=>
   obtain⟨n,rfl⟩:=Int.eq_ofNat_of_zero_le (show 0<=id by omega)
   have e2:D.bG n= { D with reads:=D.reads+1 } :=by unfold Dk.bG;rw[hno,hdn];rfl
   have ho:=ho hno hdn
   rw[e2]
   rw[hdn]at hat
   have hr:=YN h.disk (n:Int) (by rw[hat];rfl) (by simp[Lit.wf,IntKind.min,IntKind.max,IntKind.signed,IntKind.bits];omega) ⟨hF.reads.1,by have:=hF.reads.2;omega⟩
   have hse:∃cs,Blk w d 117 cs/\B<=d:=by obtain⟨s,m,pv,Dm,h4⟩:=h.disk;exact⟨_,h4.self,h4.le.1⟩
   obtain⟨cs,hse,hle⟩:=hse
   rcases ho with⟨hg,rfl⟩ | ⟨k',b',hk',hb',hg,rfl⟩
   ·have e1:frB D.sure.length false n kind none=([],3):=by unfold frB;rw[hno];rfl
    rw[e1]
    obtain⟨zl,hzl⟩:∃zl,zl=D.get (n:Int):=⟨_,rfl⟩
    rw[<-hzl]at hr hg
    have hop:=fun W hT=>Js (n:Int) zl hg W hT
    unfold ql at hop
    unfold str at hr
    clear hzl
    have HOP:=Lib.hid hop
    clear e1 e2 hat hop hg
    go_enter Tryz.func273,Tryz.ntmps273
    go_wp2_with fail
    refine Calls.mono hpg ?_
    rintro e w1 ⟨rfl,rfl⟩
    go_wp2_with fail
    refine Calls.mono hr ?_
    rintro e w2 ⟨rfl,hD2,hg2,hcm2⟩
    have hbw2:=below_of_grown hg2 hB hle
    have Ju:=Kept.grown hse hg2
    have V7:=fO.grown hse hg2
    have hF2:FAt w2 B f d k { D with reads:=D.reads+1 } :=⟨Nv,Ju _ _ _ hself (by decide) (by decide),hD2⟩
    go_wp2_with fail
    refine Calls.mono (HOP.out _ (hT.below hbw2 hB0)) ?_
    rintro e w3 ⟨rfl,hb3⟩
    go_wp2
    go_ret2
    exact⟨rfl,hF2.keep hb3,hbw2.trans (hb3.mono (Nat.le_trans hB hbw2.size)),Ju.trans (Kept.below hb3),V7.trans (fO.below hb3),(hb3.cell (Nat.lt_of_lt_of_le hse.lt hg2.size)).trans hcm2⟩
   ·rw[hg]at hr
    have hop:=fun W hT=>ES n k' b' (by omega) hk' hb' W hT
    rw[Int.toNat_natCast]at hr
    unfold ql at hop
    unfold str at hr
    have hkk:((k':Int) != (kind:Int))= !decide (k'=kind):=by
     by_cases e:k'=kind
     ·subst e;simp
     ·simp[e];omega
    by_cases hk2:k'=kind
    ·have e1:frB D.sure.length false n kind (some (k',b'))=(b',0):=by unfold frB;rw[hno,if_neg (by simp),if_neg (by simp)];exact if_pos hk2
     rw[e1]
     generalize Pg.page n k' b'=zl at*
     have HOP:=Lib.hid hop
     have hq:((k':Int) != (kind:Int))=false:=by rw[hkk];simp[hk2]
     clear e1 e2 hat hop hg hkk hk2
     go_enter Tryz.func273,Tryz.ntmps273
     go_wp2_with fail
     refine Calls.mono hpg ?_
     rintro e w1 ⟨rfl,rfl⟩
     go_wp2_with fail
     refine Calls.mono hr ?_
     rintro e w2 ⟨rfl,hD2,hg2,hcm2⟩
     have hbw2:=below_of_grown hg2 hB hle
     have Ju:=Kept.grown hse hg2
     have V7:=fO.grown hse hg2
     have hF2:FAt w2 B f d k { D with reads:=D.reads+1 } :=⟨Nv,Ju _ _ _ hself (by decide) (by decide),hD2⟩
     go_wp2_with fail
     refine Calls.mono (HOP.out _ (hT.below hbw2 hB0)) ?_
     rintro e w3 ⟨rfl,hb3⟩
     go_wp2
     go_ret2
     exact⟨rfl,hF2.keep hb3,hbw2.trans (hb3.mono (Nat.le_trans hB hbw2.size)),Ju.trans (Kept.below hb3),V7.trans (fO.below hb3),(hb3.cell (Nat.lt_of_lt_of_le hse.lt hg2.size)).trans hcm2⟩
    ·have e1:frB D.sure.length false n kind (some (k',b'))=([],3):=by unfold frB;rw[hno,if_neg (by simp),if_neg (by simp)];exact if_neg hk2
     rw[e1]
     generalize Pg.page n k' b'=zl at*
     have HOP:=Lib.hid hop
     have hq:((k':Int) != (kind:Int))=true:=by rw[hkk];simp[hk2]
     clear e1 e2 hat hop hg hkk hk2
     go_enter Tryz.func273,Tryz.ntmps273
     go_wp2_with fail
     refine Calls.mono hpg ?_
     rintro e w1 ⟨rfl,rfl⟩
     go_wp2_with fail
     refine Calls.mono hr ?_
     rintro e w2 ⟨rfl,hD2,hg2,hcm2⟩
     have hbw2:=below_of_grown hg2 hB hle
     have Ju:=Kept.grown hse hg2
     have V7:=fO.grown hse hg2
     have hF2:FAt w2 B f d k { D with reads:=D.reads+1 } :=⟨Nv,Ju _ _ _ hself (by decide) (by decide),hD2⟩
     go_wp2_with fail
     refine Calls.mono (HOP.out _ (hT.below hbw2 hB0)) ?_
     rintro e w3 ⟨rfl,hb3⟩
     go_wp2
     go_ret2
     exact⟨rfl,hF2.keep hb3,hbw2.trans (hb3.mono (Nat.le_trans hB hbw2.size)),Ju.trans (Kept.below hb3),V7.trans (fO.below hb3),(hb3.cell (Nat.lt_of_lt_of_le hse.lt hg2.size)).trans hcm2⟩
theorem Bv(t m f n k:Nat)(free:List Run)(pages:Int)(D:DataW Value)(id q kind:Int)(s:ByteArray)(hid:(Lit.int .i64 id).wf=true)(hh:Maps.has D (.int .i64 id)=true)(hd:∀z,D.atKey (.int .i64 id) z= .held (content true q s))(w:World)(h:Txn w t m f n free pages k D):
  Calls Tryz.prog 212 #[.pointer (some ⟨t,0,none⟩), .int .i64 id, .int .u8 kind] w fun e w'=>e= .returned (if q=kind then .tuple #[.string s, .int .i64 0]else .tuple #[.string ⟨#[]⟩, .int .i64 3])/\Below w.heap.size w w':=by
 obtain⟨_,⟨v,h2,h3⟩,h4⟩:=h
 have hlt:=h2.lt
 have hc:=h2.cell 3
 obtain⟨u,ps,hrun,hu⟩:=h4.look_ok qM Tryz.underlying120 (Tryz.zeroValue131 w) (oH _ _ _) (MR hid)
 rw[hd,hh]at*
 obtain⟨b,q',s',rfl,hz⟩:=oI hu
 have hz:=(Prod.mk.inj hz).1
 injection hz with hz
 rw[<-hz]at hrun
 unfold content at hrun
 clear hu hz h4 hd hh
 by_cases e:q=kind
 ·subst e
  rw[if_pos rfl]
  go_enter Tryz.func212,Tryz.ntmps212
  go_wp2
  go_ret2
  exact⟨rfl,(Below.refl _ w).alloc (Nat.le_refl _) _⟩
 ·rw[if_neg e]
  have hq:(q != kind)=true:=by simpa using e
  go_enter Tryz.func212,Tryz.ntmps212
  go_wp2
  go_ret2
  exact⟨rfl,(Below.refl _ w).alloc (Nat.le_refl _) _⟩
end Go.Proofs.YteppebbmnojapaaGreatDoor
