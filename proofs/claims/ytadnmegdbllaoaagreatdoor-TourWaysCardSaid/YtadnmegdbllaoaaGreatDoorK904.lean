/- Part of this proof. -/
import Derived.RangeFuncNested
import Derived.RangeFuncBound
import Derived.RangeFuncCalls
import Derived.RangeFuncLeaves
import Derived.RangeFuncBox
import Derived.Shelf.Abstract
import Derived.Shelf.RegionOpen
import Derived.OwnWalkIn
import Derived.TacticsInMore
import Derived.LoopNIn
import Derived.LoopIn
import Derived.Test.YtadnmegdbllaoaaGreatDoorK902
import Derived.Test.YtadnmegdbllaoaaGreatDoorK903
set_option maxRecDepth 100000
set_option maxHeartbeats 8000000
open Array renaming getD->ac5,getElem?_eq_getElem->ag8,getElem_mem->agU,mem_toList_iff->adf,size_append->ahd
open Bool renaming and_eq_true->acJ
open ByteArray renaming size_append->ajO
open Go.Calls renaming mono->aac
open Go.Code renaming region->aj8
open Go.Op renaming bytesLess->agY
open Go.Region renaming binds->agp,ready->adv,wanted->adi
open Go.RowKit.Below renaming refl->aai
open Int renaming le_refl->agV
open List renaming all_eq_true->adg,any_eq_true->agq,append_assoc->ac8,cons_append->agZ,count_eq_zero->akM,count_pos_iff->akL,count_set->ala,filterMap_cons_some->agu,flatMap_append->agt,foldl_cons->ag9,getD_eq_getElem?_getD->ac6,getElem?_eq_getElem->acU,getElem?_eq_some_iff->ajS,getElem_mem->acT,length_append->aag,mem_append->aaf,mem_append_left->acM,mem_cons_of_mem->acF,mem_cons_self->aae,mem_filter->adx,mem_filterMap->ahu,mem_map->agj,mem_of_getElem?->agl,mem_range->adq,nodup_append->acG,nodup_cons->acZ,not_mem_nil->aaj,range->ac9,take_append_drop->ac1,take_length->ahe,take_of_length_le->acQ,take_succ_eq_append_getElem->acO
open Nat renaming add_sub_cancel->ak7,le_trans->acN,lt_of_lt_of_le->ak6,zero_le->ac4
open Ne renaming symm->ahc
open Option renaming getD_some->agK,map_some->ads
namespace Go.Proofs.YtadnmegdbllaoaaGreatDoor
open Go.RowKit Go.Shelf Tryz
attribute [local go_sem] Oper.semAt_some
def fZ:Enc Int:=⟨λx=> [.int .i64 x],1,λ_=>rfl,by decide,λx u hu=>by simp at hu;subst hu;rfl⟩
theorem SN:EI prog 3 (.int .i64 0) 1 8:=EI.mk aV
theorem LS.int{w:World}{B:Nat}{A:Option Addr}{l:List Int}(h:LS fZ w B A l){k:Nat}(hk:k<l.length):∃b off,A=some ⟨b,off,none⟩/\b<B/\w.cell? ⟨b,off+k,none⟩=some (.int .i64 l[k]):=by
 obtain⟨b,off,rfl,hb,hc⟩:=h.at_ hk;have h0:=hc 0 ay;refine⟨b,off,rfl,hb, ?_⟩;have e:off+k*fZ.size+0=off+k:=by show off+k*1+0=_;omega
 rw[e]at h0;exact h0
def keyE:Enc ByteArray:=⟨λs=> [.string s],1,λ_=>rfl,by decide,λx u hu=>by simp at hu;subst hu;rfl⟩
theorem SQ:EI prog 9 (.string ⟨#[]⟩) 1 16:=EI.mk aV
theorem aaC(n:Nat)(w:World)(hn:n<=4000000):Calls prog 246 #[.slice none 0 0, .int .i64 n] w (IC fZ 3 [] w):=by
 obtain⟨i0,hi,iR,gI,yj⟩:=SN;by_cases h0:n=0
 ·subst h0;refine aac (Any8.slices_Grow_room Tryz.growInt none 0 0 0 w ak ak ak ak) ?_;rintro e w' ⟨rfl,hw⟩;subst hw;exact⟨_,rfl,LO.nil_ _ _,aU⟩
 ·refine aac (Any8.slices_Grow_grow Tryz.growInt i0 _ hi iR ak none 0 0 n [] w ak ak (by rw[yj];omega) ak aH (λ_=>rfl) (λa h=>by cases h)) ?_;rintro e w' ⟨rfl,rfl⟩;refine⟨_,rfl, ?_,(aU.drew).alloc aK _⟩;refine World.ownsRow_made (base:=w.heap.size) (e:=3) (size:=1) w.drew _ _ aK (grownCap_le_maxLen w _ _ _ (by unfold maxLen;omega)) ?_;rw[ahd,ahd,size_zeroCells,size_zeroCells];have h:=grownCap_ge w (0+n) 0 3;have e1:(Value.int .i64 0:Value).cells.size=1:=rfl;have e2:Tryz.growInt_ren.t 25=3:=rfl;rw[e1,e2];simp only[Nat.zero_add]at h ⊢;simp;omega
abbrev OG:=Option Addr × Nat × List Int
def gQ(ps:List OG):List Int:=ps.flatMap (·.2.2)
def JL(p:OG):Value:= .slice p.1 p.2.2.length p.2.1
theorem JM(ps:List OG)(j:Nat)(hj:j<ps.length):gQ (ps.take (j+1))=gQ (ps.take j)++ps[j].2.2:=by
 unfold gQ;rw[acO hj,agt];simp
theorem aaD(ps:List OG)(j:Nat):(gQ (ps.take j)).length<=(gQ ps).length:=by
 have e:gQ ps=gQ (ps.take j)++gQ (ps.drop j):=by unfold gQ;rw[<-agt,ac1]
 rw[e,aag];omega
theorem SS(g n:Nat)(ps:List OG)(hn:ps.length=n)(uF:n<=10)(w:World)(hB:aO w g 32 (ps.map JL).toArray)(BO:∀p∈ps,LS fZ w w.heap.size p.1 p.2.2)(hl:(gQ ps).length<=1000000):
  Calls prog 230 #[.slice (some ⟨g,0,none⟩) n n] w (IC fZ 3 (gQ ps) w):=by
 obtain⟨o,ho⟩:=aJ (gQ ps);rw[<-ho];have HO:=ah ho;have HLS:=ah BO;have HN:=ah hn;have hnp:ps.length<=10:=by omega
 have apD:ps.length<=n:=by omega
 have apE:n<=ps.length:=by omega
 have oz:∀j (hj:j<ps.length),w.cell? ⟨g,j,none⟩=some (JL ps[j]):=λj hj=>by
  rw[hB.cell j];simp[hj]
 have HC:=ah oz;have BP:=hB.lt;have qP:=λj=>aaD ps j;clear ho BO hn oz hB;go_enter func230,ntmps230
 go_wp2
 go_loop [3,5,11] (λs _ i=>∃j:Nat,j<=ps.length/\i= .int .i64 j/\s= .int .i64 ((gQ (ps.take j)).length:Int)) (λ_ _ i=>n-(intOf i).toNat)
 case atStart=>exact⟨0,by omega,rfl,rfl⟩
 case round=>
  obtain⟨j,hj,rfl,rfl⟩:=hrel;by_cases hlt:j<ps.length
  ·have yt:(j:Int)<n:=by omega
   have c0:=HC.out j hlt;have hs:=congrArg List.length (JM ps j hlt);rw[aag]at hs;have h1:=qP (j+1);unfold JL at c0;generalize ps[j]=p at*;obtain⟨pA,pk,pl⟩:=p;simp only at c0 hs;have HS:=ah hs;have bD:((gQ (ps.take j)).length:Int)+pl.length<=1000000:=by omega
   have uZ:(0:Int)<=((gQ (ps.take j)).length:Int)+pl.length:=by omega
   clear hs;generalize (gQ (ps.take j)).length=s1 at*;go_wp2
   go_round
   case rel=>exact⟨j+1,by omega,by go_num,by rw[HS.out];go_num⟩
   case measure=>simp[intOf];omega
  ·obtain rfl:j=ps.length:=by omega
   have yh:(n:Int)<=ps.length:=by omega
   have hal:gQ (ps.take ps.length)=gQ ps:=by rw[acQ aK]
   rw[hal];have Vw:=aaC (gQ ps).length w ak;have HG:=ah Vw;clear Vw;have yI:=ah hal;clear hal;go_wp2_with fail
   refine HG.out.mono ?_;rintro e w2 ⟨v,rfl,Ij,bK⟩;go_wp2
   go_loopw [6,8,27] (λv _ i wr=>∃j:Nat,j<=ps.length/\i= .int .i64 j/\Below w.heap.size w2 wr/\LO fZ 3 wr w.heap.size v (gQ (ps.take j))) (λ_ _ i _=>n-(intOf i).toNat)
   case atStart=>exact⟨0,by omega,rfl,aU,Ij⟩
   case round=>
    obtain⟨j,hj,rfl,fJ,dh⟩:=hrel;have Bz:w.heap.size<=wr.heap.size:=acN bK.size fJ.size;have jw:=bK.trans fJ;by_cases hlt:j<ps.length
    ·have yt:(j:Int)<n:=by omega
     have c0:=(jw.cell (p:=⟨g,j,none⟩) BP).trans (HC.out j hlt);have BO:=HLS.out _ (acT hlt);have yT:=JM ps j hlt;have h1:=qP (j+1);rw[yT,aag]at h1;unfold JL at c0;have Yt:=ah yT;clear yT;generalize ps[j]=p at*;obtain⟨pA,pk,pl⟩:=p;simp only at c0 BO h1 Yt;have s1:LS fZ wr wr.heap.size pA pl:=(BO.below jw).more Bz;generalize gQ (ps.take j)=cj at*;have Rt:=dh.raw rfl (s:=1) rfl;have hgw:g<wr.heap.size:=by omega
     go_wp2_with (at_builtin;refine lJ rfl (.tmp 31) (.tmp 32) 32 rfl SN underlying32 rfl ay rfl Rt rfl s1 (fZ.sH _) (by unfold maxLen;omega) ak Bz ?_;intro v' w3 eG jT iT)
     go_roundw
     case rel=>
      refine⟨j+1,by omega,by go_num,fJ.trans iT, ?_⟩;rw[Yt.out];unfold LO;rw[fZ.kF,aag];exact eG
     case measure=>simp[intOf];omega
    ·obtain rfl:j=ps.length:=by omega
     go_wp2;go_ret;exact⟨_,rfl,by rw[HO.out, <-yI.out];exact dh,jw⟩
theorem aaE(n:Nat)(w:World)(hn:n<=4000000):Calls prog 247 #[.slice none 0 0, .int .i64 n] w (IC keyE 9 [] w):=by
 obtain⟨i0,hi,iR,gI,yj⟩:=SQ;by_cases h0:n=0
 ·subst h0;refine aac (Any8.slices_Grow_room Tryz.growStr none 0 0 0 w ak ak ak ak) ?_;rintro e w' ⟨rfl,hw⟩;subst hw;exact⟨_,rfl,LO.nil_ _ _,aU⟩
 ·refine aac (Any8.slices_Grow_grow Tryz.growStr i0 _ hi iR ak none 0 0 n [] w ak ak (by rw[yj];omega) ak aH (λ_=>rfl) (λa h=>by cases h)) ?_;rintro e w' ⟨rfl,rfl⟩;refine⟨_,rfl, ?_,(aU.drew).alloc aK _⟩;refine World.ownsRow_made (base:=w.heap.size) (e:=9) (size:=1) w.drew _ _ aK (grownCap_le_maxLen w _ _ _ (by unfold maxLen;omega)) ?_;rw[ahd,ahd,size_zeroCells,size_zeroCells];have h:=grownCap_ge w (0+n) 0 9;have e1:(Value.string ⟨#[]⟩:Value).cells.size=1:=rfl;have e2:Tryz.growStr_ren.t 25=9:=rfl;rw[e1,e2];simp only[Nat.zero_add]at h ⊢;simp;omega
abbrev OH:=Option Addr × Nat × List ByteArray
def gU(ps:List OH):List ByteArray:=ps.flatMap (·.2.2)
def JO(p:OH):Value:= .slice p.1 p.2.2.length p.2.1
theorem JQ(ps:List OH)(j:Nat)(hj:j<ps.length):gU (ps.take (j+1))=gU (ps.take j)++ps[j].2.2:=by
 unfold gU;rw[acO hj,agt];simp
theorem aaF(ps:List OH)(j:Nat):(gU (ps.take j)).length<=(gU ps).length:=by
 have e:gU ps=gU (ps.take j)++gU (ps.drop j):=by unfold gU;rw[<-agt,ac1]
 rw[e,aag];omega
theorem SX(g n:Nat)(ps:List OH)(hn:ps.length=n)(uF:n<=10)(w:World)(hB:aO w g 110 (ps.map JO).toArray)(BO:∀p∈ps,LS keyE w w.heap.size p.1 p.2.2)(hl:(gU ps).length<=1000000):
  Calls prog 231 #[.slice (some ⟨g,0,none⟩) n n] w (IC keyE 9 (gU ps) w):=by
 obtain⟨o,ho⟩:=aJ (gU ps);rw[<-ho];have HO:=ah ho;have HLS:=ah BO;have HN:=ah hn;have hnp:ps.length<=10:=by omega
 have apD:ps.length<=n:=by omega
 have apE:n<=ps.length:=by omega
 have oz:∀j (hj:j<ps.length),w.cell? ⟨g,j,none⟩=some (JO ps[j]):=λj hj=>by
  rw[hB.cell j];simp[hj]
 have HC:=ah oz;have BP:=hB.lt;have qP:=λj=>aaF ps j;clear ho BO hn oz hB;go_enter func231,ntmps231
 go_wp2
 go_loop [3,5,11] (λs _ i=>∃j:Nat,j<=ps.length/\i= .int .i64 j/\s= .int .i64 ((gU (ps.take j)).length:Int)) (λ_ _ i=>n-(intOf i).toNat)
 case atStart=>exact⟨0,by omega,rfl,rfl⟩
 case round=>
  obtain⟨j,hj,rfl,rfl⟩:=hrel;by_cases hlt:j<ps.length
  ·have yt:(j:Int)<n:=by omega
   have c0:=HC.out j hlt;have hs:=congrArg List.length (JQ ps j hlt);rw[aag]at hs;have h1:=qP (j+1);unfold JO at c0;generalize ps[j]=p at*;obtain⟨pA,pk,pl⟩:=p;simp only at c0 hs;have HS:=ah hs;have bD:((gU (ps.take j)).length:Int)+pl.length<=1000000:=by omega
   have uZ:(0:Int)<=((gU (ps.take j)).length:Int)+pl.length:=by omega
   clear hs;generalize (gU (ps.take j)).length=s1 at*;go_wp2
   go_round
   case rel=>exact⟨j+1,by omega,by go_num,by rw[HS.out];go_num⟩
   case measure=>simp[intOf];omega
  ·obtain rfl:j=ps.length:=by omega
   have yh:(n:Int)<=ps.length:=by omega
   have hal:gU (ps.take ps.length)=gU ps:=by rw[acQ aK]
   rw[hal];have Vw:=aaE (gU ps).length w ak;have HG:=ah Vw;clear Vw;have yI:=ah hal;clear hal;go_wp2_with fail
   refine HG.out.mono ?_;rintro e w2 ⟨v,rfl,Ij,bK⟩;go_wp2
   go_loopw [6,8,27] (λv _ i wr=>∃j:Nat,j<=ps.length/\i= .int .i64 j/\Below w.heap.size w2 wr/\LO keyE 9 wr w.heap.size v (gU (ps.take j))) (λ_ _ i _=>n-(intOf i).toNat)
   case atStart=>exact⟨0,by omega,rfl,aU,Ij⟩
   case round=>
    obtain⟨j,hj,rfl,fJ,dh⟩:=hrel;have Bz:w.heap.size<=wr.heap.size:=acN bK.size fJ.size;have jw:=bK.trans fJ;by_cases hlt:j<ps.length
    ·have yt:(j:Int)<n:=by omega
     have c0:=(jw.cell (p:=⟨g,j,none⟩) BP).trans (HC.out j hlt);have BO:=HLS.out _ (acT hlt);have yT:=JQ ps j hlt;have h1:=qP (j+1);rw[yT,aag]at h1;unfold JO at c0;have Yt:=ah yT;clear yT;generalize ps[j]=p at*;obtain⟨pA,pk,pl⟩:=p;simp only at c0 BO h1 Yt;have s1:LS keyE wr wr.heap.size pA pl:=(BO.below jw).more Bz;generalize gU (ps.take j)=cj at*;have Rt:=dh.raw rfl (s:=1) rfl;have hgw:g<wr.heap.size:=by omega
     go_wp2_with (at_builtin;refine lJ rfl (.tmp 31) (.tmp 32) 110 rfl SQ underlying110 rfl ay rfl Rt rfl s1 (keyE.sH _) (by unfold maxLen;omega) ak Bz ?_;intro v' w3 eG jT iT)
     go_roundw
     case rel=>
      refine⟨j+1,by omega,by go_num,fJ.trans iT, ?_⟩;rw[Yt.out];unfold LO;rw[keyE.kF,aag];exact eG
     case measure=>simp[intOf];omega
    ·obtain rfl:j=ps.length:=by omega
     go_wp2;go_ret;exact⟨_,rfl,by rw[HO.out, <-yI.out];exact dh,jw⟩
theorem wF(g n:Nat)(ps:List Part)(hn:ps.length=n)(uF:n<=10)(w:World)(hB:aO w g 50 (ps.map Sz).toArray)(BO:∀p∈ps,LS gV w w.heap.size p.1 p.2.2)(hl:(kM ps).length<=1000000):
  Calls prog 211 #[.slice (some ⟨g,0,none⟩) n n] w (IC gV 94 (kM ps) w):=by
 have hC:=aS (zi g n ps hn uF w hB BO hl);obtain⟨o,ho⟩:=aJ (kM ps);rw[<-ho]at hC ⊢;clear ho hB BO hl hn;go_enter func211,ntmps211
 go_wp2_with fail
 refine hC.out.mono ?_;rintro e w1 ⟨v,rfl,ho,hb⟩;go_wp2;go_ret;exact⟨v,rfl,ho,hb⟩
theorem nZ(g n:Nat)(ps:List OG)(hn:ps.length=n)(uF:n<=10)(w:World)(hB:aO w g 32 (ps.map JL).toArray)(BO:∀p∈ps,LS fZ w w.heap.size p.1 p.2.2)(hl:(gQ ps).length<=1000000):
  Calls prog 212 #[.slice (some ⟨g,0,none⟩) n n] w (IC fZ 3 (gQ ps) w):=by
 have hC:=aS (SS g n ps hn uF w hB BO hl);obtain⟨o,ho⟩:=aJ (gQ ps);rw[<-ho]at hC ⊢;clear ho hB BO hl hn;go_enter func212,ntmps212
 go_wp2_with fail
 refine hC.out.mono ?_;rintro e w1 ⟨v,rfl,ho,hb⟩;go_wp2;go_ret;exact⟨v,rfl,ho,hb⟩
theorem og(g n:Nat)(ps:List OH)(hn:ps.length=n)(uF:n<=10)(w:World)(hB:aO w g 110 (ps.map JO).toArray)(BO:∀p∈ps,LS keyE w w.heap.size p.1 p.2.2)(hl:(gU ps).length<=1000000):
  Calls prog 213 #[.slice (some ⟨g,0,none⟩) n n] w (IC keyE 9 (gU ps) w):=by
 have hC:=aS (SX g n ps hn uF w hB BO hl);obtain⟨o,ho⟩:=aJ (gU ps);rw[<-ho]at hC ⊢;clear ho hB BO hl hn;go_enter func213,ntmps213
 go_wp2_with fail
 refine hC.out.mono ?_;rintro e w1 ⟨v,rfl,ho,hb⟩;go_wp2;go_ret;exact⟨v,rfl,ho,hb⟩
theorem LS.key{w:World}{B:Nat}{A:Option Addr}{l:List ByteArray}(h:LS keyE w B A l){k:Nat}(hk:k<l.length):∃b off,A=some ⟨b,off,none⟩/\b<B/\w.cell? ⟨b,off+k,none⟩=some (.string l[k]):=by
 obtain⟨b,off,rfl,hb,hc⟩:=h.at_ hk;have h0:=hc 0 ay;refine⟨b,off,rfl,hb, ?_⟩;have e:off+k*keyE.size+0=off+k:=by show off+k*1+0=_;omega
 rw[e]at h0;exact h0
def dw(lf:Bool)(Ae:Option Addr)(ne ce:Nat)(Ai:Option Addr)(ni ci:Nat)(Ay:Option Addr)(ny cy:Nat):Value:= .agg #[.bool lf, .slice Ae ne ce, .slice Ai ni ci, .slice Ay ny cy]
def NS(w:World)(v:Value)(n:Nd.Node):Prop:=∃Ae ce Ai ci Ay cy,v=dw n.leaf Ae n.ents.length ce Ai n.kids.length ci Ay n.keys.length cy/\SV gV w Ae ce n.ents/\SV fZ w Ai ci n.kids/\SV keyE w Ay cy n.keys
theorem NS.up{w w':World}{v:Value}{n:Nd.Node}(h:NS w v n)(hb:Below w.heap.size w w'):NS w' v n:=by
 obtain⟨Ae,ce,Ai,ci,Ay,cy,rfl,h1,h2,h3⟩:=h;exact⟨Ae,ce,Ai,ci,Ay,cy,rfl,h1.up hb,h2.up hb,h3.up hb⟩
theorem ahC(i:Int)(w:World):Calls prog 225 #[.int .i64 i] w λe w'=>e= .returned (.bool (!Nd.qR i))/\w'=w:=by
 have hq:(!Nd.qR i)=(decide (i<2)||decide (4294967295<i)):=by
  unfold Nd.qR;by_cases h1:i<2<;>by_cases h2:4294967295<i<;>simp[h1,h2]<;>omega
 rw[hq];clear hq;by_cases h1:i<2
 ·have e1:decide (i<2)=true:=by simpa using h1
  go_enter func225,ntmps225
  go_wp2;go_ret;exact⟨by simp;omega,rfl⟩
 ·have e1:decide (i<2)=false:=by simpa using h1
  go_enter func225,ntmps225
  go_wp2;go_ret;exact⟨by simp,rfl⟩
theorem aaG(A:Option Addr)(c:Nat)(l:List Int)(w:World)(h:LS fZ w w.heap.size A l)(hl:l.length<=1000000):
  Calls prog 244 #[.slice A l.length c, .func (.func 225) #[] #[]] w λe w'=>∃j:Int,e= .returned (.int .i64 j)/\decide (0<=j)=l.any (λi=> !Nd.qR i)/\w'=w:=by
 go_enter func244,ntmps244
 go_wp2
 go_loop [5,8] (λ_ i=>∃k:Nat,k<=l.length/\i= .int .i64 k/\(∀j (hj:j<l.length),j<k->Nd.qR l[j]=true)) (λ_ i=>l.length-(intOf i).toNat)
 case atStart=>exact⟨0,by omega,rfl,λj hj h=>absurd h ak⟩
 case round=>
  obtain⟨i,hi,rfl,iL⟩:=hrel;have HNO:=ah iL;clear iL;by_cases hlt:i<l.length
  ·obtain⟨b1,o1,rfl,_,g0⟩:=h.int hlt;have hc:=aS (ahC l[i] w);obtain⟨y,hy⟩:=aJ (l[i]);rw[<-hy]at hc g0;have HY:=ah hy;clear hy
   cases pW:Nd.qR y with
   |false=>
    rw[pW]at hc;have HIN:=ah pW;clear pW;go_wp2_with (go_at_call 225;refine hc.out.mono ?_;rintro e _ ⟨rfl,rfl⟩)
    go_ret;refine⟨_,rfl, ?_,rfl⟩;have:l.any (λi=> !Nd.qR i)=true:=agq.2 ⟨l[i],acT hlt,by rw[<-HY.out,HIN.out];rfl⟩;rw[this];simp
   |true=>
    rw[pW]at hc;have HIN:=ah pW;clear pW;go_wp2_with (go_at_call 225;refine hc.out.mono ?_;rintro e _ ⟨rfl,rfl⟩)
    go_round
    case rel=>
     refine⟨i+1,by omega,by go_num,λj hj qg=> ?_⟩;by_cases MB:j<i
     ·exact HNO j hj MB
     ·obtain rfl:j=i:=by omega
      rw[<-HY.out];exact HIN
    case measure=>simp[intOf];omega
  ·obtain rfl:i=l.length:=by omega
   go_wp2;go_ret;refine⟨_,rfl, ?_,rfl⟩
   have:l.any (λi=> !Nd.qR i)=false:=by
    rw[List.any_eq_false];intro x hx;obtain⟨j,hj,rfl⟩:=List.getElem_of_mem hx;rw[HNO.out j hj hj];simp
   rw[this];simp
theorem Qm(A:Option Addr)(c:Nat)(l:List Int)(w:World)(h:LS fZ w w.heap.size A l)(hl:l.length<=1000000):
  Calls prog 226 #[.slice A l.length c, .func (.func 225) #[] #[]] w λe w'=>e= .returned (.bool (!l.all Nd.qR))/\w'=w:=by
 have hc:=aS (aaG A c l w h hl);have hq:l.any (λi=> !Nd.qR i)= !l.all Nd.qR:=by rw[List.not_all_eq_any_not]
 rw[hq]at hc;clear hq;generalize (!l.all Nd.qR)=q at*;go_enter func226,ntmps226
 go_wp2_with fail
 refine hc.out.mono ?_;rintro e _ ⟨j,rfl,hj,rfl⟩;have HJ:=ah hj;clear hj;go_wp2;go_ret;exact⟨by rw[<-HJ.out];rfl,rfl⟩
theorem SY(Ae Ai Ay:Option Addr)(ce ci cy:Nat)(n:Nd.Node)(iD:n.leaf=true)(w:World)(he:SV gV w Ae ce n.ents)(hl:n.ents.length<=100000)(MF:n.kids.length<=100000)(Gs:n.keys.length<=100000):
  Calls prog 197 #[dw true Ae n.ents.length ce Ai n.kids.length ci Ay n.keys.length cy] w λe w'=>e= .returned (.bool (Nd.right n))/\Below w.heap.size w w':=by
 have hq:Nd.right n=(En.right n.ents&&decide (n.kids.length+n.keys.length=0)):=by unfold Nd.right;rw[if_pos iD]
 rw[hq];have hB:=aO.new w 188 #[.bool true, .slice Ae n.ents.length ce, .slice Ai n.kids.length ci, .slice Ay n.keys.length cy];have hE:=aS (G5 Ae ce n.ents (w.alloc (.cells #[.bool true, .slice Ae n.ents.length ce, .slice Ai n.kids.length ci, .slice Ay n.keys.length cy] 188)) (he.ls.up (aU.alloc aK _)) ak);unfold dw;generalize n.kids.length=ni at*;generalize n.keys.length=ny at*;clear hq he;generalize encS n.ents=S at*
 cases hr:En.right n.ents with
 |false=>
  rw[hr]at hE;clear hr;go_enter func197,ntmps197
  go_wp2_with fail
  refine hE.out.mono ?_;rintro e w1 ⟨rfl,bD⟩;have iq:=hB.below bD hB.lt;have c1:=iq.cell 2;have c2:=iq.cell 3;have E5:=iq.lt;go_wp2;go_ret;exact⟨rfl,(aU.alloc aK _).trans (bD.mono aH)⟩
 |true=>
  rw[hr]at hE;clear hr;by_cases h0:ni+ny=0
  ·obtain rfl:ni=0:=by omega
   obtain rfl:ny=0:=by omega
   go_enter func197,ntmps197
   go_wp2_with fail
   refine hE.out.mono ?_;rintro e w1 ⟨rfl,bD⟩;have iq:=hB.below bD hB.lt;have c1:=iq.cell 2;have c2:=iq.cell 3;have E5:=iq.lt;go_wp2;go_ret;exact⟨rfl,(aU.alloc aK _).trans (bD.mono aH)⟩
  ·have hd:decide (ni+ny=0)=false:=by simpa using h0
   rw[hd];have N8:((ni:Int)+ny==0)=false:=by rw[beq_eq_false_iff_ne];omega
   have hd3:(ni:Int)+ny<=1000000:=by omega
   clear h0 hd;go_enter func197,ntmps197
   go_wp2_with fail
   refine hE.out.mono ?_;rintro e w1 ⟨rfl,bD⟩;have iq:=hB.below bD hB.lt;have c1:=iq.cell 2;have c2:=iq.cell 3;have E5:=iq.lt;go_wp2;go_ret;exact⟨by simp,(aU.alloc aK _).trans (bD.mono aH)⟩
def qo(l:List ByteArray)(k:Nat):Bool:=Nd.lM (Nd.GY l k) (l.drop k)
theorem Qn(Ae Ai Ay:Option Addr)(ce ci cy:Nat)(n:Nd.Node)(iD:n.leaf=false)(w:World)(hi:SV fZ w Ai ci n.kids)(hy:SV keyE w Ay cy n.keys)(hl:n.ents.length<=100000)(MF:n.kids.length<=100000)(Gs:n.keys.length<=100000):
  Calls prog 197 #[dw false Ae n.ents.length ce Ai n.kids.length ci Ay n.keys.length cy] w λe w'=>e= .returned (.bool (Nd.right n))/\Below w.heap.size w w':=by
 have hq:Nd.right n=(decide (n.ents.length=0)&&decide (n.keys.length+1=n.kids.length)&&n.kids.all Nd.qR&&qo n.keys 0):=by unfold Nd.right;rw[if_neg (by rw[iD];simp)];rfl
 rw[hq];have fM:=(aai w.heap.size w).alloc aK (.cells #[.bool false, .slice Ae n.ents.length ce, .slice Ai n.kids.length ci, .slice Ay n.keys.length cy] 188);have hO:=aS (Qm Ai ci n.kids (w.alloc (.cells #[.bool false, .slice Ae n.ents.length ce, .slice Ai n.kids.length ci, .slice Ay n.keys.length cy] 188)) (hi.ls.up fM) ak);have hk:=hy.ls.below fM;unfold dw;generalize Gt:n.keys=ks at*;clear Gt hy hi hq;generalize n.kids.length=ni at*;generalize n.ents.length=ne at*;generalize n.kids.all Nd.qR=ok at*;by_cases h0:ne=0
 ·subst h0;by_cases h1:ks.length+1=ni
  ·cases ok with
   |false=>
    have e1:((ks.length:Int)==ni-1)=true:=by rw[beq_iff_eq];omega
    have e2:((ks.length:Int) != ni-1)=false:=by rw[bne_eq_false_iff_eq];omega
    have HD:Hid ((decide (0=0)&&decide (ks.length+1=ni)&&false&&qo ks 0)=false):=ah aH;rw[HD.out];go_enter func197,ntmps197
    go_wp2_with fail
    refine hO.out.mono ?_;rintro e _ ⟨rfl,rfl⟩;go_wp2;go_ret;exact⟨rfl,fM⟩
   |true=>
    have e1:((ks.length:Int)==ni-1)=true:=by rw[beq_iff_eq];omega
    have e2:((ks.length:Int) != ni-1)=false:=by rw[bne_eq_false_iff_eq];omega
    have HD:Hid ((decide (0=0)&&decide (ks.length+1=ni)&&true&&qo ks 0)=qo ks 0):=ah (by simp[h1]);rw[HD.out];obtain⟨R,hR⟩:=aJ (qo ks 0);rw[<-hR];have HR:=ah hR;clear hR HD h1;go_enter func197,ntmps197
    go_wp2_with fail
    refine hO.out.mono ?_;rintro e _ ⟨rfl,rfl⟩;go_wp2
    go_loop [6,7,51] (λ_ _ i=>∃k:Nat,k<=ks.length/\i= .int .i64 k/\Hid (R=qo ks k)) (λ_ _ i=>ks.length-(intOf i).toNat)
    case atStart=>exact⟨0,by omega,rfl,HR⟩
    case round=>
     obtain⟨k,VY,rfl,HK⟩:=hrel;by_cases hlt:k<ks.length
     ·obtain⟨b1,o1,rfl,bD,g0⟩:=hk.key hlt;have Yr:=ah (Nd.ahA ks k hlt);obtain⟨x,hx⟩:=aJ (ks[k]);rw[<-hx]at g0 Yr
      cases hm:En.may x ⟨#[]⟩with
      |false=>
       have hc:=λW=>aS (check_any x ⟨#[]⟩ W);rw[WR hm]at hc;have HM:=ah hm;clear hm hx;go_wp2_with fail
       refine(hc _).out.mono ?_;rintro e _ ⟨rfl,rfl⟩;go_wp2;go_ret;exact⟨by rw[HK.out];unfold qo;rw[Yr.out,HM.out];rfl,fM⟩
      |true=>
       have hc:=λW=>aS (check_any x ⟨#[]⟩ W);rw[Jb hm]at hc;have HM:=ah hm;clear hm;by_cases h0:k=0
       ·subst h0;simp only[Nat.add_zero]at g0;clear hx;go_wp2_with fail
        refine(hc _).out.mono ?_;rintro e _ ⟨rfl,rfl⟩;go_wp2
        go_round
        case rel=>exact⟨1,by omega,rfl,ah (by rw[HK.out];unfold qo;rw[Yr.out,HM.out];rfl)⟩
        case measure=>simp[intOf];omega
       ·obtain⟨q,rfl⟩:∃q,k=q+1:=⟨k-1,by omega⟩;obtain⟨b2,o2,e3,bK,f0⟩:=hk.key (show q<ks.length by omega);injection e3 with e3;injection e3 with e3 e4;subst e3 e4;have hp:=ah (Nd.WT ks (q+1) hlt ak);obtain⟨z,hz⟩:=aJ (ks[q]);rw[<-hz]at f0;have HZ:=ah hz;clear hx hz
        cases hlz:En.lt z x with
        |true=>
         have mV:agY z.toList x.toList=true:=hlz;have HL:=ah hlz;clear hlz h0;go_wp2_with fail
         refine(hc _).out.mono ?_;rintro e _ ⟨rfl,rfl⟩;go_wp2
         go_round
         case rel=>
          refine⟨q+1+1,by omega,by go_num,ah ?_⟩;rw[HK.out];unfold qo;rw[Yr.out,hp.out,HM.out];simp only[ak7, <-HZ.out];unfold En.ahead;simp only;rw[HL.out];simp
         case measure=>simp[intOf];omega
        |false=>
         have mV:agY z.toList x.toList=false:=hlz;have HL:=ah hlz;clear hlz h0;go_wp2_with fail
         refine(hc _).out.mono ?_;rintro e _ ⟨rfl,rfl⟩;go_wp2;go_ret;refine⟨?_,fM⟩;rw[HK.out];unfold qo;rw[Yr.out,hp.out,HM.out];simp only[ak7, <-HZ.out];unfold En.ahead;simp only;rw[HL.out];simp
     ·obtain rfl:k=ks.length:=by omega
      go_wp2;go_ret;refine⟨?_,fM⟩;rw[HK.out];unfold qo;rw[List.drop_of_length_le aK];rfl
  ·have e1:((ks.length:Int)==ni-1)=false:=by rw[beq_eq_false_iff_ne];omega
   have e2:((ks.length:Int) != ni-1)=true:=by rw[bne_iff_ne];omega
   have HD:Hid ((decide (0=0)&&decide (ks.length+1=ni)&&ok&&qo ks 0)=false):=ah (by simp[h1]);rw[HD.out];clear h1;go_enter func197,ntmps197
   go_wp2;go_ret;exact⟨rfl,fM⟩
 ·have e0:decide (0<(ne:Int))=true:=by simp;omega
  have e1:0<ne:=by omega
  have HD:Hid ((decide (ne=0)&&decide (ks.length+1=ni)&&ok&&qo ks 0)=false):=ah (by simp[h0]);rw[HD.out];clear h0;go_enter func197,ntmps197
  go_wp2;go_ret;exact⟨rfl,fM⟩
structure NB(n:Nd.Node):Prop where
 e:n.ents.length<=100000
 i:n.kids.length<=100000
 k:n.keys.length<=100000
 es:Nd.bP n.ents<=1000000000
 ks:Nd.bH n.keys<=1000000000
theorem qp(v:Value)(n:Nd.Node)(w:World)(h:NS w v n)(hb:NB n):
  Calls prog 197 #[v] w λe w'=>e= .returned (.bool (Nd.right n))/\Below w.heap.size w w':=by
 obtain⟨Ae,ce,Ai,ci,Ay,cy,rfl,h1,h2,h3⟩:=h
 cases iD:n.leaf with
 |true=>exact SY Ae Ai Ay ce ci cy n iD w h1 hb.e hb.i hb.k
 |false=>exact Qn Ae Ai Ay ce ci cy n iD w h2 h3 hb.e hb.i hb.k
theorem Ns(l:List ByteArray)(k:Nat):Nd.bH (l.take k)<=Nd.bH l:=by
 have:=Nd.fB (l.take k) (l.drop k);rw[ac1]at this;omega
theorem WV(Ae Ai Ay:Option Addr)(ce ci cy:Nat)(n:Nd.Node)(iD:n.leaf=true)(w:World)(he:SV gV w Ae ce n.ents)(hb:NB n):
  Calls prog 184 #[dw true Ae n.ents.length ce Ai n.kids.length ci Ay n.keys.length cy] w λe w'=>e= .returned (.int .i64 (Nd.size n:Nat))/\Below w.heap.size w w':=by
 have hq:Nd.size n=Nd.bP n.ents:=by unfold Nd.size;rw[if_pos iD]
 rw[hq];have hE:=aS (Fq Ae ce n.ents (w.alloc (.cells #[.bool true, .slice Ae n.ents.length ce, .slice Ai n.kids.length ci, .slice Ay n.keys.length cy] 188)) (he.ls.up (aU.alloc aK _)) hb.e hb.es);unfold dw;generalize n.kids.length=ni at*;generalize n.keys.length=ny at*;generalize Nd.bP n.ents=S at*;clear hq he;go_enter func184,ntmps184
 go_wp2_with fail
 refine hE.out.mono ?_;rintro e w1 ⟨rfl,bD⟩;go_wp2;go_ret;exact⟨rfl,(aU.alloc aK _).trans (bD.mono aH)⟩
theorem S9(Ae Ai Ay:Option Addr)(ce ci cy:Nat)(n:Nd.Node)(iD:n.leaf=false)(w:World)(hy:SV keyE w Ay cy n.keys)(hb:NB n):
  Calls prog 184 #[dw false Ae n.ents.length ce Ai n.kids.length ci Ay n.keys.length cy] w λe w'=>e= .returned (.int .i64 (Nd.size n:Nat))/\Below w.heap.size w w':=by
 have hq:Nd.size n=4+Nd.bH n.keys:=by unfold Nd.size;rw[if_neg (by rw[iD];simp)]
 rw[hq];have fM:=(aai w.heap.size w).alloc aK (.cells #[.bool false, .slice Ae n.ents.length ce, .slice Ai n.kids.length ci, .slice Ay n.keys.length cy] 188);have hk:=hy.ls.below fM;have Gs:=hb.k;have hT:=ah (λk=>Ns n.keys k);have RU:=hb.ks;unfold dw;generalize Gt:n.keys=ks at*;clear Gt hy hq hb;generalize n.kids.length=ni at*;generalize n.ents.length=ne at*;obtain⟨R,hR⟩:=aJ (Nd.bH ks);rw[<-hR]at RU ⊢;have HR:=ah hR;clear hR;go_enter func184,ntmps184
 go_wp2
 go_loop [3,5,14] (λs _ i=>∃k m:Nat,k<=ks.length/\i= .int .i64 k/\s= .int .i64 m/\m<=2000000000/\Hid (m=4+Nd.bH (ks.take k))) (λ_ _ i=>ks.length-(intOf i).toNat)
 case atStart=>exact⟨0,4,by omega,rfl,rfl,by omega,ah rfl⟩
 case round=>
  obtain⟨k,m,VY,rfl,rfl,hm,HM⟩:=hrel;by_cases hlt:k<ks.length
  ·obtain⟨b1,o1,rfl,bD,g0⟩:=hk.key hlt;have h1:=Nd.IE ks k hlt;have h2:=hT.out (k+1);have Vz:=HM.out;rw[h1]at h2;have H1:=ah h1;obtain⟨x,hx⟩:=aJ (ks[k]);rw[<-hx]at g0 h2;have h3:m+(5+x.size)<=1000000004:=by rw[HR.out]at RU;have:Nd.ksz x=5+x.size:=rfl;omega
   have HX:=ah hx;clear h1 hx h2 Vz;have h5:0<=(x.size:Int):=by omega
   go_wp2
   go_round
   case rel=>
    refine⟨k+1,m+(5+x.size),by omega,by go_num,by go_num,by omega,ah ?_⟩;rw[H1.out,HM.out, <-HX.out];show _=_+(_+(5+x.size));omega
   case measure=>simp[intOf];omega
  ·obtain rfl:k=ks.length:=by omega
   go_wp2;go_ret;refine⟨?_,fM⟩;have e1:m=4+R:=by rw[HM.out,HR.out,ahe]
   rw[e1];rfl
theorem FH(v:Value)(n:Nd.Node)(w:World)(h:NS w v n)(hb:NB n):
  Calls prog 184 #[v] w λe w'=>e= .returned (.int .i64 (Nd.size n:Nat))/\Below w.heap.size w w':=by
 obtain⟨Ae,ce,Ai,ci,Ay,cy,rfl,h1,h2,h3⟩:=h
 cases iD:n.leaf with
 |true=>exact WV Ae Ai Ay ce ci cy n iD w h1 hb
 |false=>exact S9 Ae Ai Ay ce ci cy n iD w h3 hb
theorem wG(v:Value)(n:Nd.Node)(w:World)(h:NS w v n)(hb:NB n):
  Calls prog 177 #[v] w λe w'=>e= .returned (.bool (Nd.fits n))/\Below w.heap.size w w':=by
 obtain⟨Ae,ce,Ai,ci,Ay,cy,rfl,h1,h2,h3⟩:=h;have BQ:NS w (dw n.leaf Ae n.ents.length ce Ai n.kids.length ci Ay n.keys.length cy) n:=⟨_,_,_,_,_,_,rfl,h1,h2,h3⟩;have fM:=(aai w.heap.size w).alloc aK (.cells #[.bool n.leaf, .slice Ae n.ents.length ce, .slice Ai n.kids.length ci, .slice Ay n.keys.length cy] 188);have JR:=BQ.up fM;have hR:=aS (qp _ n _ JR hb);have HS:=ah (λW (hW:NS W (dw n.leaf Ae n.ents.length ce Ai n.kids.length ci Ay n.keys.length cy) n)=>FH _ n W hW hb);have hB:=aO.new w 188 #[.bool n.leaf, .slice Ae n.ents.length ce, .slice Ai n.kids.length ci, .slice Ay n.keys.length cy];have hq:Nd.fits n=(Nd.right n&&decide (Nd.size n<=240)):=rfl;rw[hq];have hsb:Nd.size n<=1000000004:=by unfold Nd.size;have:=hb.es;have:=hb.ks;split<;>omega
 have HNS:=ah JR;clear h1 h2 h3 BQ JR hq hb;unfold dw at*;obtain⟨s,hs⟩:=aJ (Nd.size n);rw[<-hs]at HS hsb ⊢;clear hs
 cases hr:Nd.right n with
 |false=>
  rw[hr]at hR;clear hr;go_enter func177,ntmps177
  go_wp2_with fail
  refine hR.out.mono ?_;rintro e w1 ⟨rfl,bD⟩;go_wp2;go_ret;exact⟨rfl,fM.trans (bD.mono fM.size)⟩
 |true=>
  rw[hr]at hR;clear hr;go_enter func177,ntmps177
  go_wp2_with fail
  refine hR.out.mono ?_;rintro e w1 ⟨rfl,bD⟩;have iq:=hB.below bD hB.lt;have c0:=iq.cell 0;have c1:=iq.cell 1;have c2:=iq.cell 2;have c3:=iq.cell 3;have E5:=iq.lt;have hS1:=ah (HS.out w1 (HNS.out.up bD));have rJ:=fM.trans (bD.mono fM.size);clear bD;go_wp2_with fail
  refine hS1.out.mono ?_;rintro e w2 ⟨rfl,bK⟩;go_wp2;go_ret;exact⟨by simp;omega,rJ.trans (bK.mono rJ.size)⟩
theorem Qo(Ae Ai Ay:Option Addr)(ce ci cy:Nat)(n:Nd.Node)(iD:n.leaf=true)(iE:Nd.fits n=true)(w:World)(h:NS w (dw true Ae n.ents.length ce Ai n.kids.length ci Ay n.keys.length cy) n)(he:SV gV w Ae ce n.ents)(hb:NB n):
  Calls prog 215 #[dw true Ae n.ents.length ce Ai n.kids.length ci Ay n.keys.length cy] w λe w'=>e= .returned (.tuple #[.int .u8 1, .string (Nd.str (Nd.enc n)), .int .i64 0])/\Below w.heap.size w w':=by
 have gy:Nd.right n=true:=by unfold Nd.fits at iE;exact(acJ _ _ ▸ iE).1
 have her:En.right n.ents=true:=by
  unfold Nd.right at gy;rw[if_pos iD]at gy;exact(acJ _ _ ▸ gy).1
 have hq:Nd.enc n=encS n.ents:=by unfold Nd.enc encS;rw[if_pos iD,her];rfl
 rw[hq];have fM:=(aai w.heap.size w).alloc aK (.cells #[.bool true, .slice Ae n.ents.length ce, .slice Ai n.kids.length ci, .slice Ay n.keys.length cy] 188);have hB:=aO.new w 188 #[.bool true, .slice Ae n.ents.length ce, .slice Ai n.kids.length ci, .slice Ay n.keys.length cy];have JR:=h.up fM;have hR:=aS (qp _ n _ JR hb);rw[gy]at hR;have HF:=ah (λW (hW:NS W (dw true Ae n.ents.length ce Ai n.kids.length ci Ay n.keys.length cy) n)=>wG _ n W hW hb);rw[iE]at HF;have HE:=ah (λW (hW:SV gV W Ae ce n.ents)=>G5 Ae ce n.ents W hW.ls hb.e);rw[her]at HE;have HNS:=ah JR;have Vy:=ah (he.up fM);clear gy her iE hq JR he h hb iD;unfold dw at*;generalize Nd.str (encS n.ents)=S at*;go_enter func215,ntmps215
 go_wp2_with fail
 refine hR.out.mono ?_;rintro e w1 ⟨rfl,bD⟩;have iq:=hB.below bD hB.lt;have c0:=iq.cell 0;have c1:=iq.cell 1;have c2:=iq.cell 2;have c3:=iq.cell 3;have E5:=iq.lt;have dZ:=ah (HF.out w1 (HNS.out.up bD));have rJ:=fM.trans (bD.mono fM.size);have avh:=ah (Vy.out.up bD);clear bD;go_wp2_with fail
 refine dZ.out.mono ?_;rintro e w2 ⟨rfl,bK⟩;have jV:=iq.below bK iq.lt;have d0:=jV.cell 0;have d1:=jV.cell 1;have MF:=jV.lt;have hE2:=ah (HE.out w2 (avh.out.up bK));have adU:=rJ.trans (bK.mono rJ.size);clear c0 c1 c2 c3 E5 bK iq;go_wp2_with fail
 refine hE2.out.mono ?_;rintro e w3 ⟨rfl,dJ⟩;go_wp2;go_ret3;exact⟨rfl,adU.trans (dJ.mono adU.size)⟩
theorem JU(ks:List ByteArray)(is:List Int)(hl:ks.length=is.length)(k:Nat)(hk:k<ks.length)(sV:k<is.length):Nd.wB (ks.take (k+1)) (is.take (k+1))=Nd.wB (ks.take k) (is.take k)++(Nd.text ks[k]++Cp.be 4 (is[k]'sV).toNat):=by
 unfold Nd.wB;have hz:k<(ks.zip is).length:=by rw[List.length_zip];omega
 have e:∀j,(ks.take j).zip (is.take j)=(ks.zip is).take j:=λj=>(List.take_zipWith ..).symm;rw[e,e,acO hz,agt];simp[Nd.YV]
theorem Tc(n:Int)(h0:2<=n)(h1:n<=4294967295)(w:World):Calls prog 180 #[.int .i64 4, .int .i64 n] w λe w'=>e= .returned (.tuple #[.string (Nd.str (Cp.be 4 n.toNat)), .int .i64 0])/\Below w.heap.size w w':=Ou n w ak ak
theorem Nu(Ae Ai Ay:Option Addr)(ce ci cy:Nat)(n:Nd.Node)(iD:n.leaf=false)(iE:Nd.fits n=true)(w:World)(h:NS w (dw false Ae n.ents.length ce Ai n.kids.length ci Ay n.keys.length cy) n)(hi:SV fZ w Ai ci n.kids)(hy:SV keyE w Ay cy n.keys)(hb:NB n):
  Calls prog 215 #[dw false Ae n.ents.length ce Ai n.kids.length ci Ay n.keys.length cy] w λe w'=>e= .returned (.tuple #[.int .u8 2, .string (Nd.str (Nd.enc n)), .int .i64 0])/\Below w.heap.size w w':=by
 have gy:Nd.right n=true:=by unfold Nd.fits at iE;exact(acJ _ _ ▸ iE).1
 have fM:=(aai w.heap.size w).alloc aK (.cells #[.bool false, .slice Ae n.ents.length ce, .slice Ai n.kids.length ci, .slice Ay n.keys.length cy] 188);have hB:=aO.new w 188 #[.bool false, .slice Ae n.ents.length ce, .slice Ai n.kids.length ci, .slice Ay n.keys.length cy];have JR:=h.up fM;have hR:=aS (qp _ n _ JR hb);rw[gy]at hR;have HF:=ah (λW (hW:NS W (dw false Ae n.ents.length ce Ai n.kids.length ci Ay n.keys.length cy) n)=>wG _ n W hW hb);rw[iE]at HF;have HNS:=ah JR;have N9:=hi.ls.up fM;have Yy:=hy.ls.up fM;have hlk:=hb.k
 have IG:Nd.right ⟨false,n.ents,n.kids,n.keys⟩=true:=by
  obtain⟨leaf,ents,kids,keys⟩:=n;simp only at iD;subst iD;exact gy
 obtain⟨he0,Gt,jA,hkf⟩:=Nd.dV.1 IG;have hm:=((Nd.oK n.keys).1 hkf).1
 obtain⟨i0,is,Io⟩:∃i0 is,n.kids=i0::is:=by
  cases VY:n.kids with
  |nil=>rw[VY]at Gt;simp at Gt
  |cons i0 is=>exact⟨i0,is,rfl⟩
 focus
  have hq:Nd.enc n=Cp.be 4 i0.toNat++Nd.wB n.keys is:=by unfold Nd.enc;rw[if_neg (by rw[iD];simp),Io];rfl
  rw[hq];have Vu:n.keys.length=is.length:=by rw[Io]at Gt;simpa using Gt
  have Yz:=ah Vu;have HKL:=ah (show n.kids.length=is.length+1 by rw[Io];rfl);have HK0:=ah (show ∀h,n.kids[0]'h=i0 by rw[Io];intro h;rfl);have HKS:=ah (show ∀k h h2,n.kids[k+1]'h=is[k]'h2 by rw[Io];intro k h h2;rfl);have EH:=jA i0 (by rw[Io];exact aae);have HM:=ah hm;have Jq:=ah (show ∀x∈is,2<=x/\x<=4294967295 from λx hx=>jA x (by rw[Io];exact acF _ hx));have VA:=ah (λk hk sV=>JU n.keys is Vu k hk sV);obtain⟨R,hR2⟩:=aJ (Nd.str (Cp.be 4 i0.toNat++Nd.wB n.keys is));rw[<-hR2];have Yw:=ah hR2;have hP0:=ah (λW=>Tc i0 EH.1 EH.2 W);have iR:(Nd.str (Cp.be 4 i0.toNat)).size<=4:=by rw[wE,Cp.fD];omega
  obtain⟨P0,hP⟩:=aJ (Nd.str (Cp.be 4 i0.toNat));rw[<-hP]at hP0 iR;have HP:=ah hP;clear gy IG iE hq JR hi hy h hb hm jA hkf hR2 hP Io EH he0 iD Gt Vu;unfold dw at*;go_enter func215,ntmps215
  go_wp2_with fail
  refine hR.out.mono ?_;rintro e w1 ⟨rfl,bD⟩;have iq:=hB.below bD hB.lt;have c0:=iq.cell 0;have c1:=iq.cell 1;have c2:=iq.cell 2;have c3:=iq.cell 3;have E5:=iq.lt;have dZ:=ah (HF.out w1 (HNS.out.up bD));have rJ:=fM.trans (bD.mono fM.size);have hi2:=N9.up bD;have hy2:=Yy.up bD;clear bD;go_wp2_with fail
  refine dZ.out.mono ?_;rintro e w2 ⟨rfl,bK⟩;have jV:=iq.below bK iq.lt;have d0:=jV.cell 0;have d2:=jV.cell 2;have MF:=jV.lt;have adU:=rJ.trans (bK.mono rJ.size);have hi3:=hi2.up bK;have hy3:=hy2.up bK;have hkp:0<n.kids.length:=by rw[HKL.out];omega
  have g0:∃b off,Ai=some ⟨b,off,none⟩/\b<w2.heap.size/\w2.cell? ⟨b,off,none⟩=some (.int .i64 i0):=by
   obtain⟨b,off,e,hb,hc⟩:=hi3.int (k:=0) (by rw[HKL.out];omega);rw[HK0.out]at hc;exact⟨b,off,e,hb,by simpa using hc⟩
  obtain⟨bi,oi,hAi,hbi,g0⟩:=g0;subst hAi;clear c0 c1 c2 c3 E5 bK iq hi2 hy2 N9 Yy;go_wp2_with fail
  refine(hP0.out _).mono ?_;rintro e w3 ⟨rfl,dJ⟩;have hB3:=jV.below dJ jV.lt;have e2:=hB3.cell 2;have e3:=hB3.cell 3;have Gs:=hB3.lt;have ahD:=adU.trans (dJ.mono adU.size);have hi4:=hi3.up dJ;have hy4:=hy3.up dJ;clear d0 d2 g0 hi3 hy3 dJ jV;go_wp2
  go_loopw [7,45] (λs i wr=>∃ (k:Nat) (S:ByteArray),k<=n.keys.length/\i= .int .i64 k/\s= .string S/\Hid (S=Nd.str (Cp.be 4 i0.toNat++Nd.wB (n.keys.take k) (is.take k)))/\S.size<=4+100*k/\Below w3.heap.size w3 wr) (λ_ i _=>n.keys.length-(intOf i).toNat)
  case atStart=>exact⟨0,P0,by omega,rfl,rfl,ah (by rw[HP.out];simp[Nd.wB]),by omega,aU⟩
  case round=>
   obtain⟨k,S,hk,rfl,rfl,Vy,hS,vF⟩:=hrel;by_cases hlt:k<n.keys.length
   ·obtain⟨b2,o2,rfl,bK,g0⟩:=(hy4.below vF).key hlt;obtain⟨b3,o3,e5,dJ,g1⟩:=(hi4.below vF).int (k:=k+1) (by rw[HKL.out, <-Yz.out];omega);injection e5 with e5;injection e5 with e5 e6;subst e5 e6;have hm:=HM.out _ (acT hlt);have aBJ:k+1<n.kids.length:=by rw[HKL.out, <-Yz.out];omega
    have ahE:k<is.length:=by rw[<-Yz.out];exact hlt
    have hki:=Jq.out (is[k]'ahE) (acT _);have htk:=ah (VA.out k hlt ahE);rw[HKS.out k _ ahE]at g1;obtain⟨x,hx⟩:=aJ (n.keys[k]);obtain⟨y,hy⟩:=aJ (is[k]'ahE);rw[<-hx]at g0 hm;rw[<-hy]at g1 hki;have HX:=ah hx;have HY:=ah hy;clear hx hy;unfold En.may at hm;simp only[acJ,decide_eq_true_eq]at hm;obtain⟨⟨m1,m2⟩,m3⟩:=hm;have hSx:Hid (S++(Nd.str (Nd.text x)++Nd.str (Cp.be 4 y.toNat))=Nd.str (Cp.be 4 i0.toNat++Nd.wB (n.keys.take (k+1)) (is.take (k+1)))):=ah (by rw[htk.out,Vy.out,Jd,Jd, <-HX.out, <-HY.out,ac8]);have z1:(Nd.str (Nd.text x)).size<=17:=by rw[wE,Nd.jZ];omega
    have z2:(Nd.str (Cp.be 4 y.toNat)).size<=4:=by rw[wE,Cp.fD];omega
    have t1:=ah (λW=>FB x ak W);have t2:=ah (λW=>Tc y hki.1 hki.2 W);generalize Nd.str (Nd.text x)=S1 at*;generalize Nd.str (Cp.be 4 y.toNat)=S2 at*;have Ru:b2<wr.heap.size:=by have:=vF.size;omega
    have ahF:bi<wr.heap.size:=by have:=vF.size;omega
    have lW:=hB3.below vF hB3.lt;have yP:=lW.lt;go_wp2_with fail
    refine(t1.out _).mono ?_;rintro e w5 ⟨rfl,lZ⟩;have EG:=lW.below lZ lW.lt;have f2:=EG.cell 2;have hl5:=EG.lt;have g5:=(lZ.cell (p:=⟨bi,oi+(k+1),none⟩) ahF).trans g1;have aBK:bi<w5.heap.size:=by have:=lZ.size;omega
    have apK:=vF.trans (lZ.mono vF.size);clear lZ EG lW;go_wp2_with fail
    refine(t2.out _).mono ?_;rintro e w6 ⟨rfl,BR⟩;have avi:=apK.trans (BR.mono apK.size);clear BR;have fG:(S.size:Int)+((S1.size:Int)+S2.size)<=1000000000:=by omega
    have aw1:(S1.size:Int)+S2.size<=1000000000:=by omega
    go_wp2
    go_roundw
    case rel=>exact⟨k+1,_,by omega,by go_num,rfl,hSx,by rw[ajO,ajO];omega,avi⟩
    case measure=>simp[intOf];omega
   ·obtain rfl:k=n.keys.length:=by omega
    go_wp2;go_ret3;refine⟨?_,ahD.trans (vF.mono ahD.size)⟩;have hs:S=R:=by rw[Vy.out,Yw.out,ahe,Yz.out,ahe]
    rw[hs];rfl
theorem YX{l:List ByteArray}(h:Nd.CJ l){i j:Nat}(hij:i<=j)(hj:j<l.length){k:ByteArray}(hk:En.lt k l[i]=true):En.lt k l[j]=true:=by
 by_cases e:i=j
 ·subst e;exact hk
 ·exact En.lt_trans hk (List.pairwise_iff_getElem.1 h i j ak hj ak)
theorem ahG{l:List ByteArray}(h:Nd.CJ l){i j:Nat}(hij:i<=j)(hj:j<l.length){k:ByteArray}(hk:En.lt k l[j]=false):En.lt k (l[i]'ak)=false:=by
 cases hc:En.lt k (l[i]'ak)with
 |false=>rfl
 |true=>rw[YX h hij hj hc]at hk;cases hk
theorem alQ(x k:ByteArray):(!agY x.toList k.toList&& !x.toList==k.toList)=agY k.toList x.toList:=by
 have e1:agY x.toList k.toList=En.lt x k:=rfl;have e2:agY k.toList x.toList=En.lt k x:=rfl;rw[e1,e2]
 cases h1:En.lt x k with
 |true=>rw[En.Fg h1];rfl
 |false=>
  rcases En.GX h1 with e | e
  ·subst e;rw[En.lt_irrefl];simp
  ·rw[e]
   have dL:(x.toList==k.toList)=false:=by
    rw[beq_eq_false_iff_ne];intro hl;have:En.lt k x=En.lt k k:=by unfold En.lt;rw[hl]
    rw[En.lt_irrefl,e]at this;cases this
   rw[dL];rfl
theorem WW(g1 g2:Nat)(cs:Array Value)(Ay:Option Addr)(cy:Nat)(ks:List ByteArray)(key:ByteArray)(i:Nat)(hi:i<ks.length)(w:World)(hB:aO w g1 188 cs)(hc3:cs[3]? =some (.slice Ay ks.length cy))(hK:aO w g2 9 #[.string key])(hl:LS keyE w w.heap.size Ay ks):
  Calls prog 150 #[.int .i64 i, .pointer (some ⟨g1,0,none⟩), .pointer (some ⟨g2,0,none⟩)] w λe w'=>e= .returned (.bool (En.lt key ks[i]))/\Below w.heap.size w w':=by
 obtain⟨b,off,rfl,hb,g0⟩:=hl.key hi;have c3:=hB.cell 3;rw[hc3]at c3;have k0:=hK.cell 0;have l1:=hB.lt;have l2:=hK.lt;generalize ks[i]=x at*;have hq:En.lt key x=agY key.toList x.toList:=rfl;rw[hq];clear hq;go_enter func150,ntmps150
 go_wp2_with fail
 go_quiet (fail)
 go_wp2;go_ret;exact⟨congrArg (λb=>Ending.returned (.bool b)) (alQ x key),below_drewN aU _⟩
theorem Qp(g1 g2:Nat)(cs:Array Value)(Ay:Option Addr)(cy:Nat)(ks:List ByteArray)(key:ByteArray)(hs:Nd.CJ ks)(hlen:ks.length<=1000000)(w:World)(hB:aO w g1 188 cs)(hc3:cs[3]? =some (.slice Ay ks.length cy))(hK:aO w g2 9 #[.string key])(hl:LS keyE w w.heap.size Ay ks):
  Calls prog 149 #[.int .i64 ks.length, .func (.func 150) #[] #[.pointer (some ⟨g1,0,none⟩), .pointer (some ⟨g2,0,none⟩)]] w λe w'=>e= .returned (.int .i64 (Nd.child ks key:Nat))/\Below w.heap.size w w':=by
 have HC:=ah (λi hi W hB hK hl=>WW g1 g2 cs Ay cy ks key i hi W hB hc3 hK hl);have HB:=ah hB;have HK:=ah hK;have HL:=ah hl;have E5:=hB.lt;have MF:=hK.lt;have HI:=ah (λi h h1 h2=>Nd.aay (l:=ks) hs (key:=key) (i:=i) h h1 h2);have HS:=ah hs;obtain⟨R,hR⟩:=aJ (Nd.child ks key);rw[<-hR];have HR:=ah hR;clear hR hB hK hl hc3 hs;go_enter func149,ntmps149
 go_wp2
 go_loopg [5,6,7] ks.length (λg s7 s8 _ wr=>∃lo hi:Nat,s7= .int .i64 lo/\s8= .int .i64 hi/\lo<=hi/\hi<=ks.length/\hi-lo<=g/\Below w.heap.size w wr/\Hid ((∀j (hj:j<ks.length),j<lo->En.lt key ks[j]=false)/\(∀j (hj:j<ks.length),hi<=j->En.lt key ks[j]=true)))
 case atStart=>exact⟨0,ks.length,rfl,rfl,ac4 _,aK,by omega,aU,ah ⟨λj hj h=>absurd h ak,λj hj h=>absurd h ak⟩⟩
 case round=>
  obtain⟨lo,hi,rfl,rfl,Ik,pW,hg,fM,HJ⟩:=hrel;by_cases hlt:lo<hi
  ·have hm:(lo+hi) / 2<ks.length:=by omega
   have hc:=HC.out _ hm wr (HB.out.below fM E5) (HK.out.below fM MF) (HL.out.up fM);obtain⟨q,hq⟩:=aJ ((lo+hi) / 2);have hqi:((lo:Int)+(hi:Int)) / 2=(q:Int):=by omega
   have rZ:lo<=q:=by omega
   have rE:q<hi:=by omega
   have AX:q<ks.length:=by omega
   have hsl:=ah (λj (h1:q<=j) (hj:j<ks.length) (hk:En.lt key (ks[q]'AX)=true)=>YX HS h1 hj (k:=key) hk);have hsg:=ah (λj (h1:j<=q) (hj:q<ks.length) (hk:En.lt key ks[q]=false)=>ahG HS h1 hj (k:=key) hk)
   have hcq:Calls prog 150 #[.int .i64 q, .pointer (some ⟨g1,0,none⟩), .pointer (some ⟨g2,0,none⟩)] wr λe w'=>e= .returned (.bool (En.lt key (ks[q]'AX)))/\Below wr.heap.size wr w':=by
    subst hq;exact hc
   clear hc hq
   cases EF:En.lt key (ks[q]'AX)with
   |false=>
    rw[EF]at hcq;have HCQ:=ah hcq;have HLX:=ah EF;clear EF hcq;go_wp2_with fail
    refine aac HCQ ?_;rintro e w2 ⟨rfl,b3⟩;go_wp2
    go_roundg (hi-(q+1))
    case measure=>omega
    case rel=>
     refine⟨q+1,hi,by go_num,rfl,by omega,pW,aK,fM.trans (b3.mono fM.size),ah ⟨λj hj MB=> ?_,HJ.out.2⟩⟩;exact hsg j ak AX HLX
   |true=>
    rw[EF]at hcq;have HCQ:=ah hcq;have HLX:=ah EF;clear EF hcq;go_wp2_with fail
    refine aac HCQ ?_;rintro e w2 ⟨rfl,b3⟩;go_wp2
    go_roundg (q-lo)
    case measure=>omega
    case rel=>
     refine⟨lo,q,rfl,by go_num,by omega,by omega,aK,fM.trans (b3.mono fM.size),ah ⟨HJ.out.1,λj hj MB=> ?_⟩⟩;exact hsl j MB hj HLX
  ·obtain rfl:lo=hi:=by omega
   go_wp2;go_ret;refine⟨?_,fM⟩;have e1:lo=R:=by rw[HR.out,HI.out lo pW HJ.out.1 HJ.out.2]
   rw[e1];rfl
theorem JV(v:Value)(n:Nd.Node)(key:ByteArray)(w:World)(h:NS w v n)(hb:NB n)(hs:Nd.CJ n.keys):
  Calls prog 117 #[v, .string key] w λe w'=>e= .returned (.int .i64 (Nd.child n.keys key:Nat))/\Below w.heap.size w w':=by
 obtain⟨Ae,ce,Ai,ci,Ay,cy,rfl,h1,h2,h3⟩:=h;have bD:=(aai w.heap.size w).alloc aK (.cells #[.bool n.leaf, .slice Ae n.ents.length ce, .slice Ai n.kids.length ci, .slice Ay n.keys.length cy] 188);have fM:=bD.alloc bD.size (.cells #[.string key] 9);have hB:=(aO.new w 188 #[.bool n.leaf, .slice Ae n.ents.length ce, .slice Ai n.kids.length ci, .slice Ay n.keys.length cy]).alloc (.cells #[.string key] 9);have hK:=aO.new (w.alloc (.cells #[.bool n.leaf, .slice Ae n.ents.length ce, .slice Ai n.kids.length ci, .slice Ay n.keys.length cy] 188)) 9 #[.string key];have hS:=aS (Qp w.heap.size (w.heap.size+1) _ Ay cy n.keys key hs (by have:=hb.k;omega) _ hB rfl (by simpa using hK) (h3.ls.up fM));have hk:=hb.k;generalize Nd.child n.keys key=R at*;clear h1 h2 h3 hB hK hs hb bD;unfold dw;go_enter func117,ntmps117
 go_wp2_with fail
 refine hS.out.mono ?_;rintro e w1 ⟨rfl,bK⟩;go_wp2;go_ret;exact⟨rfl,fM.trans (bK.mono fM.size)⟩
theorem WX(v:Value)(n:Nd.Node)(w:World)(h:NS w v n)(hb:NB n):
  Calls prog 181 #[v] w λe w'=>e= .returned (.bool (decide (n.ents.length+n.kids.length=0)))/\Below w.heap.size w w':=by
 obtain⟨Ae,ce,Ai,ci,Ay,cy,rfl,h1,h2,h3⟩:=h;have fM:=(aai w.heap.size w).alloc aK (.cells #[.bool n.leaf, .slice Ae n.ents.length ce, .slice Ai n.kids.length ci, .slice Ay n.keys.length cy] 188);have b1:=hb.e;have b2:=hb.i
 have hq:decide (n.ents.length+n.kids.length=0)=((n.ents.length:Int)+n.kids.length==0):=by
  by_cases h0:n.ents.length+n.kids.length=0
  ·rw[decide_eq_true h0];symm;rw[beq_iff_eq];omega
  ·rw[decide_eq_false h0];symm;rw[beq_eq_false_iff_ne];omega
 rw[hq];clear hq h1 h2 h3 hb;unfold dw;generalize n.ents.length=ne at*;generalize n.kids.length=ni at*;have hz:(ne:Int)+ni<=1000000:=by omega
 go_enter func181,ntmps181
 go_wp2;go_ret;exact⟨rfl,fM⟩
end Go.Proofs.YtadnmegdbllaoaaGreatDoor
namespace Rp
abbrev Run:=Int × Int
def Most:Int:=4294967295
def clip(r:Run):Run:=(max r.1 0,min r.2 Most)
def Mem(l:List Run)(n:Int):Prop:=∃r∈l,r.1<=n/\n<=r.2
def Canon:Int->List Run->Prop
 |_, []=>True
 |lo,r::l=>lo<=r.1/\r.1<=r.2/\r.2<=Most/\Canon (r.2+2) l
theorem gX(n:Int):¬Mem [] n:=by rintro⟨r,h,_⟩;cases h
theorem mem_cons{r:Run}{l:List Run}{n:Int} :Mem (r::l) n ↔ (r.1<=n/\n<=r.2)\/Mem l n:=by
 unfold Mem;constructor
 ·rintro⟨s,hs,h⟩;rcases List.mem_cons.1 hs with rfl | hs
  ·exact .inl h
  ·exact .inr ⟨s,hs,h⟩
 ·rintro(h | ⟨s,hs,h⟩)
  ·exact⟨r,aae,h⟩
  ·exact⟨s,acF _ hs,h⟩
theorem mem_append{l m:List Run}{n:Int} :Mem (l++m) n ↔ Mem l n\/Mem m n:=by
 induction l with
 |nil=>simp[gX]
 |cons r l ih=>rw[agZ,mem_cons,mem_cons,ih,or_assoc]
theorem Canon.ge{lo:Int}{l:List Run}(h:Canon lo l){n:Int}(hm:Mem l n):lo<=n:=by
 induction l generalizing lo with
 |nil=>exact absurd hm (gX n)
 |cons r l ih=>
  rcases mem_cons.1 hm with h1 | h1
  ·have:=h.1;omega
  ·have:=ih h.2.2.2 h1;have:=h.1;have:=h.2.1;omega
theorem Canon.le{lo:Int}{l:List Run}(h:Canon lo l){n:Int}(hm:Mem l n):n<=Most:=by
 induction l generalizing lo with
 |nil=>exact absurd hm (gX n)
 |cons r l ih=>
  rcases mem_cons.1 hm with h1 | h1
  ·have:=h.2.2.1;omega
  ·exact ih h.2.2.2 h1
theorem xG:∀ (a b:List Run) (lo lo':Int),Canon lo a->Canon lo' b->(∀n,Mem a n ↔ Mem b n)->a=b
 | [], [],_,_,_,_,_=>rfl
 | [],s::b,_,_,_,hb,h=>absurd ((h s.1).2 (mem_cons.2 (.inl ⟨agV _,hb.2.1⟩))) (gX _)
 |r::a, [],_,_,ha,_,h=>absurd ((h r.1).1 (mem_cons.2 (.inl ⟨agV _,ha.2.1⟩))) (gX _)
 |(f,t)::a,(f',t')::b,lo,lo',ha,hb,h=>by
  obtain⟨_,h1,_,ha'⟩:=ha;obtain⟨_,h2,_,zW⟩:=hb;simp only at h1 h2 ha' zW
  have e1:f=f':=by
   have m1:=(h f).1 (mem_cons.2 (.inl ⟨agV _,h1⟩));have m2:=(h f').2 (mem_cons.2 (.inl ⟨agV _,h2⟩));rcases mem_cons.1 m1 with m1 | m1<;>rcases mem_cons.1 m2 with m2 | m2
   ·simp only at m1 m2;omega
   ·have:=ha'.ge m2;simp only at m1;omega
   ·have:=zW.ge m1;simp only at m2;omega
   ·have:=ha'.ge m2;have:=zW.ge m1;omega
  subst e1
  have e2:t=t':=by
   rcases Int.lt_trichotomy t t' with hlt | heq | hlt
   ·have m:=(h (t+1)).2 (mem_cons.2 (.inl ⟨by simp only;omega,by simp only;omega⟩));rcases mem_cons.1 m with m | m
    ·simp only at m;omega
    ·have:=ha'.ge m;omega
   ·exact heq
   ·have m:=(h (t'+1)).1 (mem_cons.2 (.inl ⟨by simp only;omega,by simp only;omega⟩));rcases mem_cons.1 m with m | m
    ·simp only at m;omega
    ·have:=zW.ge m;omega
  subst e2;rw[xG a b _ _ ha' zW λn=> ?_];constructor
  ·intro m;have hn:=ha'.ge m;rcases mem_cons.1 ((h n).1 (mem_cons.2 (.inr m)))with m' | m'
   ·simp only at m';omega
   ·exact m'
  ·intro m;have hn:=zW.ge m;rcases mem_cons.1 ((h n).2 (mem_cons.2 (.inr m)))with m' | m'
   ·simp only at m';omega
   ·exact m'
def kept(l:List Run):List Run:=(l.map clip).filter λr=>decide (r.1<=r.2)
def push(out:List Run)(r:Run):List Run:=
 match out.getLast? with
 |none=> [r]
 |some y=>if r.1<=y.2+1 then out.dropLast++ [(y.1,max y.2 r.2)]else out++ [r]
def merged(l:List Run):List Run:=l.foldl push []
def Up(out:List Run):Prop:=Canon 0 out
theorem jG{a b:List Run}{lo:Int} :Canon lo (a++b) ↔ Canon lo a/\Canon (match a.getLast? with | none=>lo | some y=>y.2+2) b:=by
 induction a generalizing lo with
 |nil=>simp[Canon]
 |cons r a ih=>
  rw[agZ];show(lo<=r.1/\r.1<=r.2/\r.2<=Most/\Canon (r.2+2) (a++b)) ↔ (lo<=r.1/\r.1<=r.2/\r.2<=Most/\Canon (r.2+2) a)/\_;rw[ih];have e:((r::a).getLast?)=some (a.getLast?.getD r):=by rw[List.getLast?_cons]
  rw[e];rcases h:a.getLast? with _ | y
  ·simp[and_assoc]
  ·simp[and_assoc]
theorem FI{l:List Run}{y:Run}(h:l.getLast? =some y):l=l.dropLast++ [y]:=by
 have dL:l≠ []:=by rintro rfl;simp at h
 have:=List.dropLast_concat_getLast dL;rw[List.getLast?_eq_some_getLast dL]at h;injection h with h;rw[h]at this;exact this.symm
def WY(out:List Run)(n:Int):Prop:=∀y,out.getLast? =some y->y.1<=n
theorem ahH{out:List Run}{r:Run}(h:Canon 0 out)(hl:WY out r.1)(h0:0<=r.1)(h1:r.1<=r.2)(h2:r.2<=Most):
  Canon 0 (push out r)/\WY (push out r) r.1/\∀n,Mem (push out r) n ↔ Mem out n\/(r.1<=n/\n<=r.2):=by
 unfold push;rcases hg:out.getLast? with _ | y
 ·have hn:out= []:=by simpa using hg
  subst hn;refine⟨⟨h0,h1,h2,trivial⟩, ?_,λn=> ?_⟩
  ·intro y hy;simp at hy;subst hy;exact agV _
  ·simp[mem_cons,gX]
 ·have hs:=FI hg;have RQ:=hl y hg;have hc:Canon 0 (out.dropLast++ [y]):=by rw[<-hs];exact h
  obtain⟨hd,Yy,hy2,hy3,_⟩:=jG.1 hc;simp only;split
  ·rename_i hle;refine⟨jG.2 ⟨hd,Yy, ?_, ?_,trivial⟩, ?_,λn=> ?_⟩
   ·simp only;omega
   ·simp only;omega
   ·intro z hz;simp at hz;subst hz;exact RQ
   ·have hm:Mem out n ↔ Mem (out.dropLast++ [y]) n:=by rw[<-hs]
    rw[hm,mem_append,mem_append,mem_cons,mem_cons];have:=gX n;simp only[this,or_false];constructor
    ·rintro(h | h)
     ·exact .inl (.inl h)
     ·by_cases hh:n<=y.2
      ·exact .inl (.inr ⟨h.1,hh⟩)
      ·exact .inr ⟨by omega,by omega⟩
    ·rintro((h | h) | h)
     ·exact .inl h
     ·exact .inr ⟨h.1,by omega⟩
     ·exact .inr ⟨by omega,by omega⟩
  ·rename_i hle;refine⟨jG.2 ⟨h, ?_⟩, ?_,λn=> ?_⟩
   ·rw[hg];exact⟨by simp only;omega,h1,h2,trivial⟩
   ·intro z hz;simp at hz;subst hz;exact agV _
   ·rw[mem_append,mem_cons];have:=gX n;simp only[this,or_false]
theorem G6(l:List Run):∀ (out:List Run),Canon 0 out->(∀r∈l,WY out r.1)->l.Pairwise (λa b=>a.1<=b.1)->
  (∀r∈l,0<=r.1/\r.1<=r.2/\r.2<=Most)->Canon 0 (l.foldl push out)/\∀n,Mem (l.foldl push out) n ↔ Mem out n\/Mem l n:=by
 induction l with
 |nil=>intro out h _ _ _;exact⟨h,λn=>by simp[gX]⟩
 |cons r l ih=>
  intro out h hl hp hr;obtain⟨hp1,Gu⟩:=List.pairwise_cons.1 hp;obtain⟨h0,h1,h2⟩:=hr r aae;obtain⟨c,ll,m⟩:=ahH h (hl r aae) h0 h1 h2;obtain⟨c2,m2⟩:=ih (push out r) c (λs hs y hy=>Int.le_trans (ll y hy) (hp1 s hs)) Gu (λs hs=>hr s (acF _ hs));refine⟨c2,λn=> ?_⟩;rw[ag9,m2,m,mem_cons,or_assoc]
theorem Qq{l:List Run} :∀r∈kept l,0<=r.1/\r.1<=r.2/\r.2<=Most:=by
 intro r hr;unfold kept at hr;obtain⟨h1,h2⟩:=adx.1 hr;obtain⟨s,_,rfl⟩:=agj.1 h1;have h2:(clip s).1<=(clip s).2:=of_decide_eq_true h2;refine⟨?_,h2, ?_⟩<;>simp only[clip]<;>omega
theorem adV{l:List Run}{n:Int} :Mem (kept l) n ↔ Mem l n/\0<=n/\n<=Most:=by
 constructor
 ·rintro⟨r,hr,h⟩;have:=Qq r hr;unfold kept at hr;obtain⟨h1,h2⟩:=adx.1 hr;obtain⟨s,hs,rfl⟩:=agj.1 h1;simp only[clip]at h this;exact⟨⟨s,hs,by omega,by omega⟩,by omega,by omega⟩
 ·rintro⟨⟨r,hr,h⟩,h0,hm⟩;refine⟨clip r,adx.2 ⟨agj.2 ⟨r,hr,rfl⟩, ?_⟩, ?_⟩
  ·simp only[clip];exact decide_eq_true (by omega)
  ·simp only[clip];omega
theorem adW{a b:List Run}(h:a.Perm b)(n:Int):Mem a n ↔ Mem b n:=by
 unfold Mem;constructor
 ·rintro⟨r,hr,x⟩;exact⟨r,h.mem_iff.1 hr,x⟩
 ·rintro⟨r,hr,x⟩;exact⟨r,h.mem_iff.2 hr,x⟩
theorem Nv{l s:List Run}(hp:s.Perm (kept l))(hs:s.Pairwise (λa b=>a.1<=b.1)):
  Canon 0 (merged s)/\∀n,Mem (merged s) n ↔ Mem l n/\0<=n/\n<=Most:=by
 obtain⟨c,m⟩:=G6 s [] trivial (λr _ y hy=>by simp at hy) hs (λr hr=>Qq r (hp.mem_iff.1 hr));refine⟨c,λn=> ?_⟩;have:=m n;unfold merged;rw[this,adW hp,adV];simp[gX]
def iY(st:List Run × Run × Bool)(y:Run):List Run × Run × Bool:=
 if y.2+1<st.2.1.1 then(st.1++ [y],st.2.1,st.2.2)
 else if st.2.1.2+1<y.1 then(if st.2.2 then(st.1++ [y],st.2.1,true)else(st.1++ [st.2.1]++ [y],st.2.1,true))
 else(st.1,(min st.2.1.1 y.1,max st.2.1.2 y.2),st.2.2)
def CQ(st:List Run × Run × Bool):List Run:=if st.2.2 then st.1 else st.1++ [st.2.1]
def put(l:List Run)(x:Run):List Run:=
 if(clip x).1<=(clip x).2 then CQ (l.foldl iY ([],clip x,false))else l
def norm(l:List Run):List Run:=l.foldl put []
theorem adX(l:List Run):∀ (out:List Run) (r:Run) (lo:Int),Canon lo l->r.2+1<lo->
  l.foldl iY (out,r,true)=(out++l,r,true)\/l.foldl iY (out,r,true)=(out++l,r,true):=by
 induction l with
 |nil=>intro out r lo _ _;simp
 |cons y l ih=>
  intro out r lo h hr
  have e:iY (out,r,true) y=(out++ [y],r,true):=by
   unfold iY;have:=h.1;by_cases h1:y.2+1<r.1
   ·simp[h1]
   ·simp only[h1,if_false];rw[if_pos (by omega)];simp
  rw[ag9,e];have:=ih (out++ [y]) r (y.2+2) h.2.2.2 (by have:=h.1;have:=h.2.1;omega);simpa using this
theorem adY(l:List Run):∀ (out:List Run) (r:Run) (lo:Int),Canon lo l->Canon 0 out->(∀y,out.getLast? =some y->y.2+2<=lo/\y.2+1<r.1)->0<=lo->
  0<=r.1->r.1<=r.2->r.2<=Most->
  Canon 0 (CQ (l.foldl iY (out,r,false)))/\∀n,Mem (CQ (l.foldl iY (out,r,false))) n ↔ Mem out n\/Mem l n\/(r.1<=n/\n<=r.2):=by
 induction l with
 |nil=>
  intro out r lo _ ho hl _ h0 h1 h2;simp only[List.foldl_nil,CQ,Bool.false_eq_true,if_false];refine⟨jG.2 ⟨ho, ?_⟩,λn=> ?_⟩
  ·rcases hg:out.getLast? with _ | y
   ·exact⟨h0,h1,h2,trivial⟩
   ·exact⟨by have:=(hl y hg).2;simp only;omega,h1,h2,trivial⟩
  ·rw[mem_append,mem_cons];simp[gX]
 |cons y l ih=>
  intro out r lo h ho hl zX h0 h1 h2;obtain⟨g1,g2,g3,g4⟩:=h;rw[ag9];by_cases c1:y.2+1<r.1
  ·have e:iY (out,r,false) y=(out++ [y],r,false):=by unfold iY;simp[c1]
   rw[e]
   have hc:Canon 0 (out++ [y]):=jG.2 ⟨ho,by
    rcases hg:out.getLast? with _ | z
    ·exact⟨by simp only;omega,g2,g3,trivial⟩
    ·exact⟨by have:=(hl z hg).1;simp only;omega,g2,g3,trivial⟩⟩
   obtain⟨i1,i2⟩:=ih (out++ [y]) r (y.2+2) g4 hc (λz hz=>by simp at hz;subst hz;exact⟨agV _,c1⟩) (by omega) h0 h1 h2;refine⟨i1,λn=> ?_⟩;rw[i2,mem_append,mem_cons,mem_cons];simp only[gX,or_false,or_assoc]
  ·by_cases c2:r.2+1<y.1
   ·have e:iY (out,r,false) y=(out++ [r]++ [y],r,true):=by unfold iY;simp[c1,c2]
    rw[e];rcases adX l (out++ [r]++ [y]) r (y.2+2) g4 (by omega)with hd | hd<;>
    ·rw[hd];simp only[CQ,if_true];refine⟨?_,λn=> ?_⟩
     ·rw[ac8,ac8];refine jG.2 ⟨ho, ?_⟩;refine⟨?_,h1,h2, ?_,g2,g3, ?_⟩
      ·rcases hg:out.getLast? with _ | z
       ·exact h0
       ·have:=(hl z hg).2;show z.2+2<=r.1;omega
      ·show r.2+2<=y.1;omega
      ·simpa using g4
     ·simp only[mem_append,mem_cons,gX,or_false];constructor
      ·rintro(((h | h) | h) | h)
       ·exact .inl h
       ·exact .inr (.inr h)
       ·exact .inr (.inl (.inl h))
       ·exact .inr (.inl (.inr h))
      ·rintro(h | (h | h) | h)
       ·exact .inl (.inl (.inl h))
       ·exact .inl (.inr h)
       ·exact .inr h
       ·exact .inl (.inl (.inr h))
   ·have e:iY (out,r,false) y=(out,(min r.1 y.1,max r.2 y.2),false):=by unfold iY;simp[c1,c2]
    rw[e];obtain⟨i1,i2⟩:=ih out (min r.1 y.1,max r.2 y.2) (y.2+2) g4 ho (λz hz=>by have:=hl z hz;simp only;omega) (by omega) (by simp only;omega) (by simp only;omega) (by simp only;omega);refine⟨i1,λn=> ?_⟩;rw[i2,mem_cons];simp only;constructor
    ·rintro(h | h | h)
     ·exact .inl h
     ·exact .inr (.inl (.inr h))
     ·by_cases hh:r.1<=n/\n<=r.2
      ·exact .inr (.inr hh)
      ·exact .inr (.inl (.inl (by omega)))
    ·rintro(h | (h | h) | h)
     ·exact .inl h
     ·exact .inr (.inr (by omega))
     ·exact .inr (.inl h)
     ·exact .inr (.inr (by omega))
theorem alR{l:List Run}(x:Run)(h:Canon 0 l):Canon 0 (put l x)/\∀n,Mem (put l x) n ↔ Mem l n\/(x.1<=n/\n<=x.2/\0<=n/\n<=Most):=by
 unfold put;by_cases hc:(clip x).1<=(clip x).2
 ·rw[if_pos hc];obtain⟨i1,i2⟩:=adY l [] (clip x) 0 h trivial (λy hy=>by simp at hy) (agV _) (by simp only[clip];omega) hc (by simp only[clip];omega);refine⟨i1,λn=> ?_⟩;rw[i2];simp only[gX,false_or,clip];constructor
  ·rintro(h | h)
   ·exact .inl h
   ·exact .inr (by omega)
  ·rintro(h | h)
   ·exact .inl h
   ·exact .inr (by omega)
 ·rw[if_neg hc];refine⟨h,λn=>⟨.inl, ?_⟩⟩;rintro(h | h)
  ·exact h
  ·simp only[clip]at hc;omega
theorem FK(l:List Run):∀ (out:List Run),Canon 0 out->Canon 0 (l.foldl put out)/\∀n,Mem (l.foldl put out) n ↔ Mem out n\/(Mem l n/\0<=n/\n<=Most):=by
 induction l with
 |nil=>intro out h;exact⟨h,λn=>by simp[gX]⟩
 |cons x l ih=>
  intro out h;obtain⟨c,m⟩:=alR x h;obtain⟨c2,m2⟩:=ih (put out x) c;refine⟨c2,λn=> ?_⟩;rw[ag9,m2,m,mem_cons];constructor
  ·rintro((h | h) | h)
   ·exact .inl h
   ·exact .inr ⟨.inl ⟨h.1,h.2.1⟩,h.2.2⟩
   ·exact .inr ⟨.inr h.1,h.2⟩
  ·rintro(h | ⟨h | h,h'⟩)
   ·exact .inl (.inl h)
   ·exact .inl (.inr ⟨h.1,h.2,h'⟩)
   ·exact .inr ⟨h,h'⟩
theorem xH(l:List Run):Canon 0 (norm l)/\∀n,Mem (norm l) n ↔ Mem l n/\0<=n/\n<=Most:=by
 obtain⟨c,m⟩:=FK l [] trivial;exact⟨c,λn=>by unfold norm;rw[m];simp[gX]⟩
theorem norm_eq{l s:List Run}(hp:s.Perm (kept l))(hs:s.Pairwise (λa b=>a.1<=b.1)):merged s=norm l:=by
 obtain⟨c1,m1⟩:=Nv hp hs;obtain⟨c2,m2⟩:=xH l;exact xG _ _ _ _ c1 c2 λn=>by rw[m1,m2]
theorem G7(st:List Run × Run × Bool)(y:Run):(iY st y).1.length<=st.1.length+1+(if st.2.2 then 0 else if(iY st y).2.2 then 1 else 0):=by
 unfold iY;by_cases h1:y.2+1<st.2.1.1
 ·simp[h1]
 ·by_cases h2:st.2.1.2+1<y.1
  ·by_cases h3:st.2.2
   ·simp[h1,h2,h3]
   ·simp[h1,h2,h3]
  ·simp[h1,h2];omega
end Rp
namespace Rp
def gY(st:List Run × Int)(r:Run):List Run × Int:=(if st.2<r.1 then st.1++ [(st.2,r.1-1)]else st.1,r.2+1)
def oM(st:List Run × Int):List Run:=if st.2<=Most then st.1++ [(st.2,Most)]else st.1
def rest(l:List Run):List Run:=oM ((norm l).foldl gY ([],0))
theorem aaH(l:List Run):∀ (out:List Run) (from_ lo:Int),Canon lo l->from_<=lo->0<=from_->Canon 0 out->(∀y,out.getLast? =some y->y.2+2<=from_)->from_<=Most+1->
  Canon 0 (oM (l.foldl gY (out,from_)))/\∀n,Mem (oM (l.foldl gY (out,from_))) n ↔ Mem out n\/(from_<=n/\n<=Most/\¬Mem l n):=by
 induction l with
 |nil=>
  intro out f lo _ _ h0 ho hl hm;by_cases hle:f<=Most
  ·have e:oM ([].foldl gY (out,f))=out++ [(f,Most)]:=if_pos hle;rw[e];refine⟨jG.2 ⟨ho, ?_⟩,λn=> ?_⟩
   ·rcases hg:out.getLast? with _ | y
    ·exact⟨h0,hle,agV _,trivial⟩
    ·exact⟨hl y hg,hle,agV _,trivial⟩
   ·rw[mem_append,mem_cons];simp[gX]
  ·have e:oM ([].foldl gY (out,f))=out:=if_neg hle;rw[e];refine⟨ho,λn=>⟨.inl, ?_⟩⟩;rintro(h | h)
   ·exact h
   ·omega
 |cons r l ih=>
  intro out f lo h zX h0 ho hl hm;obtain⟨g1,g2,g3,g4⟩:=h;rw[ag9];unfold gY;simp only;by_cases hf:f<r.1
  ·rw[if_pos hf]
   have hc:Canon 0 (out++ [(f,r.1-1)]):=jG.2 ⟨ho,by
    rcases hg:out.getLast? with _ | y
    ·exact⟨h0,by simp only;omega,by simp only;omega,trivial⟩
    ·exact⟨hl y hg,by simp only;omega,by simp only;omega,trivial⟩⟩
   obtain⟨i1,i2⟩:=ih (out++ [(f,r.1-1)]) (r.2+1) (r.2+2) g4 (by omega) (by omega) hc (λy hy=>by simp at hy;subst hy;simp only;omega) (by omega);refine⟨i1,λn=> ?_⟩;show Mem (oM (l.foldl gY (out++ [(f,r.1-1)],r.2+1))) n ↔ _;rw[i2,mem_append,mem_cons,mem_cons];simp only[gX,or_false];constructor
   ·rintro((h | h) | h)
    ·exact .inl h
    ·refine .inr ⟨h.1,by omega, ?_⟩;rintro(h' | h')
     ·omega
     ·have:=g4.ge h';omega
    ·refine .inr ⟨by omega,h.2.1, ?_⟩;rintro(h' | h')
     ·omega
     ·exact h.2.2 h'
   ·rintro(h | ⟨h1,h2,h3⟩)
    ·exact .inl (.inl h)
    ·by_cases hn:n<=r.1-1
     ·exact .inl (.inr ⟨h1,hn⟩)
     ·refine .inr ⟨?_,h2,λh'=>h3 (.inr h')⟩;rcases Int.lt_or_le r.2 n with h4 | h4
      ·omega
      ·exact absurd (.inl ⟨by omega,h4⟩) h3
  ·rw[if_neg hf];have ZJ:∀y,out.getLast? =some y->y.2+2<=r.2+1:=λy hy=>by have:=hl y hy;omega
   obtain⟨i1,i2⟩:=ih out (r.2+1) (r.2+2) g4 (by omega) (by omega) ho ZJ (by omega);refine⟨i1,λn=> ?_⟩;show Mem (oM (l.foldl gY (out,r.2+1))) n ↔ _;rw[i2,mem_cons];constructor
   ·rintro(h | h)
    ·exact .inl h
    ·refine .inr ⟨by omega,h.2.1, ?_⟩;rintro(h' | h')
     ·omega
     ·exact h.2.2 h'
   ·rintro(h | ⟨h1,h2,h3⟩)
    ·exact .inl h
    ·refine .inr ⟨?_,h2,λh'=>h3 (.inr h')⟩;rcases Int.lt_or_le r.2 n with h4 | h4
     ·omega
     ·exact absurd (.inl ⟨by omega,h4⟩) h3
theorem Je(l:List Run):Canon 0 (rest l)/\∀n,Mem (rest l) n ↔ 0<=n/\n<=Most/\¬Mem l n:=by
 obtain⟨c,m⟩:=xH l;obtain⟨i1,i2⟩:=aaH (norm l) [] 0 0 c (agV _) (agV _) trivial (λy hy=>by simp at hy) (by unfold Most;omega);refine⟨i1,λn=> ?_⟩;unfold rest;rw[i2,m];simp only[gX,false_or];constructor
 ·rintro⟨h1,h2,h3⟩;exact⟨h1,h2,λh=>h3 ⟨h,h1,h2⟩⟩
 ·rintro⟨h1,h2,h3⟩;exact⟨h1,h2,λh=>h3 h.1⟩
theorem Qr(l:List Run):∀st:List Run × Int,(l.foldl gY st).1.length<=st.1.length+l.length:=by
 induction l with
 |nil=>intro st;simp
 |cons r l ih=>
  intro st;rw[ag9,List.length_cons];have h:=ih (gY st r);have h2:(gY st r).1.length<=st.1.length+1:=by unfold gY;simp only;split<;>simp
  omega
theorem adZ(l:List Run):(rest l).length<=(norm l).length+1:=by
 have h:=Qr (norm l) ([],0);unfold rest oM;split<;>simp at h ⊢ <;>omega
def union(a b:List Run):List Run:=norm (a++b)
theorem Td(a b:List Run):Canon 0 (union a b)/\∀n,Mem (union a b) n ↔ (Mem a n\/Mem b n)/\0<=n/\n<=Most:=by
 obtain⟨c,m⟩:=xH (a++b);exact⟨c,λn=>by unfold union;rw[m,mem_append]⟩
def meet(a b:List Run):List Run:=rest (union (rest a) (rest b))
theorem YZ(a b:List Run):Canon 0 (meet a b)/\∀n,Mem (meet a b) n ↔ 0<=n/\n<=Most/\Mem a n/\Mem b n:=by
 obtain⟨c,m⟩:=Je (union (rest a) (rest b));refine⟨c,λn=> ?_⟩;unfold meet;rw[m,(Td _ _).2,(Je a).2,(Je b).2];by_cases h0:0<=n<;>by_cases h1:n<=Most<;>by_cases ha:Mem a n<;>by_cases hb:Mem b n<;>simp[h0,h1,ha,hb]
def minus(a b:List Run):List Run:=meet a (rest b)
theorem Tf(a b:List Run):Canon 0 (minus a b)/\∀n,Mem (minus a b) n ↔ 0<=n/\n<=Most/\Mem a n/\¬Mem b n:=by
 obtain⟨c,m⟩:=YZ a (rest b);refine⟨c,λn=> ?_⟩;unfold minus;rw[m,(Je b).2];constructor
 ·rintro⟨h0,h1,h2,h3⟩;exact⟨h0,h1,h2,h3.2.2⟩
 ·rintro⟨h0,h1,h2,h3⟩;exact⟨h0,h1,h2,h0,h1,h3⟩
theorem Am(x n:Int):Mem [(x,x)] n ↔ n=x:=by
 rw[mem_cons];simp only[gX,or_false];omega
def has(l:List Run)(n:Int):Bool:=decide (0<=n)&&decide (n<=Most)&&l.any λr=>decide (r.1<=n)&&decide (n<=r.2)
theorem Y0(l:List Run)(n:Int):has l n=true ↔ 0<=n/\n<=Most/\Mem l n:=by
 unfold has Mem;simp only[acJ,decide_eq_true_eq,agq,and_assoc]
def size(l:List Run):Int:=(l.map λr=>r.2-r.1+1).sum
def count(l:List Run):Int:=size (norm l)
def first(l:List Run):Option Int:=(norm l).head?.map (·.1)
theorem JW{l:List Run}(h:Canon 0 l):norm l=l:=by
 obtain⟨c,m⟩:=xH l;refine xG _ _ _ _ c h λn=> ?_;rw[m];exact⟨λh=>h.1,λhm=>⟨hm,h.ge hm,h.le hm⟩⟩
end Rp
namespace Rp
def nums(l:List Run):List Int:=l.flatMap λr=>(ac9 (r.2-r.1+1).toNat).map λi:Nat=>r.1+(i:Int)
theorem aaI(r:Run)(l:List Run):nums (r::l)=((ac9 (r.2-r.1+1).toNat).map λi:Nat=>r.1+(i:Int))++nums l:=by
 unfold nums;rw[List.flatMap_cons]
theorem ahI{r:Run}{x:Int} :x∈((ac9 (r.2-r.1+1).toNat).map λi:Nat=>r.1+(i:Int)) ↔ r.1<=x/\x<=r.2:=by
 rw[agj];constructor
 ·rintro⟨i,hi,rfl⟩;rw[adq]at hi;omega
 ·rintro⟨h1,h2⟩;exact⟨(x-r.1).toNat,by rw[adq];omega,by omega⟩
theorem JX{l:List Run}{x:Int} :x∈nums l ↔ Mem l x:=by
 induction l with
 |nil=>simp[nums,gX]
 |cons r l ih=>rw[aaI,aaf,ahI,ih,mem_cons]
theorem Ti(a:Int)(n:Nat):((ac9 n).map λi:Nat=>a+(i:Int)).Nodup:=by
 unfold List.Nodup;rw[List.pairwise_map];exact List.Pairwise.imp (λh e=>h (by omega)) (List.nodup_range (n:=n))
def least(l:List Run):Option Int:=(nums (norm l)).head?
theorem Jf{p x:Int} :Mem [(2,p-1)] x ↔ 2<=x/\x<p:=by
 rw[mem_cons];simp only[gX,or_false];omega
structure Ap(room:Int)(fr used:List Run)(mine:List Int)(p:Int):Prop where
 pg:2<=p/\p<=room/\room<=100000
 cf:Canon 0 fr
 cu:Canon 0 used
 hf:∀x,Mem fr x->2<=x/\x<p
 hu:∀x,Mem used x->2<=x/\x<p
 hm:∀x,x∈mine->2<=x/\x<p
 all:∀x,2<=x->x<p->Mem fr x\/Mem used x\/x∈mine
 fu:∀x,Mem fr x->¬Mem used x
 fm:∀x,Mem fr x->x ∉ mine
 um:∀x,Mem used x->x ∉ mine
 nd:mine.Nodup
section
variable {room p:Int}{fr used:List Run}{mine:List Int}
theorem Ap.start(l:List Run)(h:2<=p/\p<=room/\room<=100000):Ap room (meet l [(2,p-1)]) (minus [(2,p-1)] l) [] p:=by
 obtain⟨c1,m1⟩:=YZ l [(2,p-1)];obtain⟨c2,m2⟩:=Tf [(2,p-1)] l;refine⟨h,c1,c2,λx hx=>Jf.1 ((m1 x).1 hx).2.2.2,λx hx=>Jf.1 ((m2 x).1 hx).2.2.1,λx hx=>absurd hx aaj,λx h1 h2=> ?_,λx hx hy=>((m2 x).1 hy).2.2.2 ((m1 x).1 hx).2.2.1,λx _ hx=>absurd hx aaj,λx _ hx=>absurd hx aaj,List.nodup_nil⟩;have h3:0<=x/\x<=Most:=by unfold Most;omega
 by_cases hl:Mem l x
 ·exact .inl ((m1 x).2 ⟨h3.1,h3.2,hl,Jf.2 ⟨h1,h2⟩⟩)
 ·exact .inr (.inl ((m2 x).2 ⟨h3.1,h3.2,Jf.2 ⟨h1,h2⟩,hl⟩))
theorem JY{used:List Run}{x:Int}(hx:¬Mem used x):has used x=false:=by
 cases hh:has used x with
 |false=>rfl
 |true=>exact absurd ((Y0 _ _).1 hh).2.2 hx
theorem aaJ{l:List Run}(hc:Canon 0 l){id:Int}(h:least l=some id):Mem l id:=by
 unfold least at h;rw[JW hc]at h;exact JX.1 (List.mem_of_head? h)
theorem WZ{l:List Run}(hc:Canon 0 l)(h:least l=none)(x:Int):¬Mem l x:=by
 unfold least at h;rw[JW hc,List.head?_eq_none_iff]at h;intro hm;have:=JX.2 hm;rw[h]at this;cases this
theorem Ap.free(h:Ap room fr used mine p){id:Int}(hid:least fr=some id):
  id ∉ mine/\has used id=false/\2<=id/\id<p/\Ap room (minus fr [(id,id)]) used (mine++ [id]) p:=by
 have hm:=aaJ h.cf hid;have hr:=h.hf id hm;obtain⟨c,m⟩:=Tf fr [(id,id)];refine⟨h.fm id hm,JY (h.fu id hm),hr.1,hr.2,h.pg,c,h.cu,λx hx=>h.hf x ((m x).1 hx).2.2.1,h.hu,λx hx=> ?_,λx h1 h2=> ?_,λx hx=>h.fu x ((m x).1 hx).2.2.1,λx hx jB=> ?_,λx hx jB=> ?_, ?_⟩
 ·rcases aaf.1 hx with hx | hx
  ·exact h.hm x hx
  ·simp at hx;subst hx;exact hr
 ·have h3:=h.pg;rcases h.all x h1 h2 with h4 | h4 | h4
  ·by_cases e:x=id
   ·subst e;exact .inr (.inr (by simp))
   ·exact .inl ((m x).2 ⟨by omega,by unfold Most;omega,h4,λh5=>e ((Am id x).1 h5)⟩)
  ·exact .inr (.inl h4)
  ·exact .inr (.inr (acM _ h4))
 ·obtain⟨_,_,h4,h5⟩:=(m x).1 hx;rcases aaf.1 jB with h6 | h6
  ·exact h.fm x h4 h6
  ·simp at h6;exact h5 ((Am id x).2 h6)
 ·rcases aaf.1 jB with h6 | h6
  ·exact h.um x hx h6
  ·simp at h6;subst h6;exact h.fu x hm hx
 ·rw[acG];exact⟨h.nd,by simp,λa ha b hb e=>by simp at hb;subst hb;subst e;exact h.fm _ hm ha⟩
theorem Ap.fresh(h:Ap room fr used mine p)(hp:p<room):
  p ∉ mine/\has used p=false/\Ap room fr used (mine++ [p]) (p+1):=by
 have hpm:p ∉ mine:=λhx=>by have:=h.hm p hx;omega
 have hpu:¬Mem used p:=λhx=>by have:=h.hu p hx;omega
 have hpf:¬Mem fr p:=λhx=>by have:=h.hf p hx;omega
 have h0:=h.pg;refine⟨hpm,JY hpu,by omega,h.cf,h.cu,λx hx=>by have:=h.hf x hx;omega,λx hx=>by have:=h.hu x hx;omega,λx hx=> ?_,λx h1 h2=> ?_,h.fu,λx hx jB=> ?_,λx hx jB=> ?_, ?_⟩
 ·rcases aaf.1 hx with hx | hx
  ·have:=h.hm x hx;omega
  ·simp at hx;omega
 ·by_cases e:x=p
  ·subst e;exact .inr (.inr (by simp))
  ·rcases h.all x h1 (by omega)with h4 | h4 | h4
   ·exact .inl h4
   ·exact .inr (.inl h4)
   ·exact .inr (.inr (acM _ h4))
 ·rcases aaf.1 jB with h6 | h6
  ·exact h.fm x hx h6
  ·simp at h6;subst h6;exact hpf hx
 ·rcases aaf.1 jB with h6 | h6
  ·exact h.um x hx h6
  ·simp at h6;subst h6;exact hpu hx
 ·rw[acG];exact⟨h.nd,by simp,λa ha b hb e=>by simp at hb;subst hb;subst e;exact hpm ha⟩
theorem Ap.dropped(h:Ap room fr used mine p){id:Int}(hid:id∈mine):Ap room (union fr [(id,id)]) used (mine.filter λx=>x != id) p:=by
 obtain⟨c,m⟩:=Td fr [(id,id)];have hr:=h.hm id hid;have h0:=h.pg;have jB:∀x,x∈(mine.filter λx=>x != id) ↔ x∈mine/\x≠id:=λx=>by rw[adx];simp
 refine⟨h.pg,c,h.cu,λx hx=> ?_,h.hu,λx hx=>h.hm x ((jB x).1 hx).1,λx h1 h2=> ?_,λx hx hu=> ?_,λx hx hm=> ?_,λx hx hm=>h.um x hx ((jB x).1 hm).1,h.nd.sublist List.filter_sublist⟩
 ·rcases((m x).1 hx).1 with h4 | h4
  ·exact h.hf x h4
  ·rw[(Am id x).1 h4];exact hr
 ·have hb:0<=x/\x<=Most:=by unfold Most;omega
  rcases h.all x h1 h2 with h4 | h4 | h4
  ·exact .inl ((m x).2 ⟨.inl h4,hb⟩)
  ·exact .inr (.inl h4)
  ·by_cases e:x=id
   ·exact .inl ((m x).2 ⟨.inr ((Am id x).2 e),hb⟩)
   ·exact .inr (.inr ((jB x).2 ⟨h4,e⟩))
 ·rcases((m x).1 hx).1 with h4 | h4
  ·exact h.fu x h4 hu
  ·rw[(Am id x).1 h4]at hu;exact h.um id hu hid
 ·obtain⟨h5,h6⟩:=(jB x).1 hm;rcases((m x).1 hx).1 with h4 | h4
  ·exact h.fm x h4 h5
  ·exact h6 ((Am id x).1 h4)
theorem tC{l:List Int}{id:Int}(h:id ∉ l):(l.filter λx=>x != id)=l:=by
 rw[List.filter_eq_self];intro a ha;simp only[bne_iff_ne,ne_eq];rintro rfl;exact h ha
end
end Rp
namespace Tp
open Nd
abbrev Run:=Rp.Run
structure dR where
 free:List Run
 pages:Int
 mine:List Int
 nd:Int->Option Node
def dR.put(σ:dR)(id:Int)(n:Node):dR:= { σ with nd:=λj=>if j=id then some n else σ.nd j }
def dR.view(disk:Int->Option Node)(σ:dR)(id:Int):Option Node:=
 if id∈σ.mine then σ.nd id else if 2<=id/\id<σ.pages/\Rp.has σ.free id=false then disk id else none
def nR(free:List Run)(pages room:Int):Option (Int × List Run × Int):=
 match Rp.least free with
 |some id=>some (id,Rp.minus free [(id,id)],pages)
 |none=>if room<=pages then none else some (pages,free,pages+1)
def oN(room:Int)(σ:dR):Option (Int × dR):=match nR σ.free σ.pages room with
 |none=>none
 |some (id,fr,p)=>some (id,⟨fr,p,σ.mine++ [id],λj=>if j=id then none else σ.nd j⟩)
def iK(σ:dR)(id:Int):dR:= { σ with free:=if id∈σ.mine then Rp.union σ.free [(id,id)]else σ.free,mine:=σ.mine.filter λx=>x != id }
def ku(room:Int)(σ:dR)(id:Int)(n:Node):Except Int Int × dR:=
 if fits n=false then(.error 3,σ)
 else if id∈σ.mine then(.ok id,σ.put id n)
 else match oN room σ with
  |none=>(.error 2,σ)
  |some (id',σ')=>(.ok id',σ'.put id' n)
abbrev Part:=List Int × List En.Str
def cut(n:Node):Option (Node × En.Str × Node):=if 240<size n then split n else none
def cO(room:Int):Nat->dR->Int->Node->Except Int Part × dR
 |0,σ,_,_=>(.error 3,σ)
 |f+1,σ,id,n=>
  if n.ents.length+n.kids.length=0 then(.ok ([], []),iK σ id)
  else match cut n with
   |some (a,key,b)=>match cO room f σ id a with
    |(.error e,σ1)=>(.error e,σ1)
    |(.ok one,σ1)=>match cO room f σ1 0 b with
     |(.error e,σ2)=>(.error e,σ2)
     |(.ok two,σ2)=>(.ok (one.1++two.1,one.2++ [key]++two.2),σ2)
   |none=>match ku room σ id n with
    |(.error e,σ1)=>(.error e,σ1)
    |(.ok p,σ1)=>(.ok ([p], []),σ1)
def iZ(n:Node):Nat:=n.ents.length+n.kids.length+1
def MG(n:Node)(i:Nat):Nat:=if i+1=n.kids.length then i-1 else i
def oO(room:Int)(disk:Int->Option Node)(σ:dR)(n:Node)(i d:Nat):Except Int Node × dR:=
 if 24<=d then(.error 3,σ)else
 match σ.view disk (n.kids.getD i 0)with
 |none=>(.error 3,σ)
 |some kid=>if 80<=size kid then(.ok n,σ)else
  match σ.view disk (n.kids.getD (MG n i) 0)with
  |none=>(.error 3,σ)
  |some a=>match σ.view disk (n.kids.getD (MG n i+1) 0)with
   |none=>(.error 3,σ)
   |some b=>if(a.leaf != b.leaf)=true\/fits (join a (n.keys.getD (MG n i) ⟨#[]⟩) b)=false then(.ok n,σ)
    else match ku room σ (n.kids.getD (MG n i) 0) (join a (n.keys.getD (MG n i) ⟨#[]⟩) b)with
     |(.error e,σ1)=>(.error e,σ1)
     |(.ok page,σ1)=>(.ok (swap n (MG n i) (MG n i+2) [page] []),iK σ1 (n.kids.getD (MG n i+1) 0))
def kX(room:Int)(disk:Int->Option Node)(p:Part)(σ:dR)(n:Node)(i d:Nat):Except Int Node × dR:=
 if p.1.length=1/\1<n.kids.length then oO room disk σ n i d else(.ok n,σ)
def iU(room:Int)(disk:Int->Option Node)(g:List En.bT->List En.bT)(key:En.Str):Nat->dR->Int->Except Int Part × dR
 |0,σ,_=>(.error 3,σ)
 |f+1,σ,id=>match σ.view disk id with
  |none=>(.error 3,σ)
  |some n=>if n.leaf then cO room (iZ (bU (g n.ents))) σ id (bU (g n.ents))
   else match iU room disk g key f σ (n.kids.getD (child n.keys key) 0)with
    |(.error e,σ1)=>(.error e,σ1)
    |(.ok p,σ1)=>match kX room disk p σ1 (swap n (child n.keys key) (child n.keys key+1) p.1 p.2) (child n.keys key) (24-f)with
     |(.error e,σ2)=>(.error e,σ2)
     |(.ok n2,σ2)=>cO room (iZ n2) σ2 id n2
def iV(disk:Int->Option Node):Nat->dR->Int->Except Int Int × dR
 |0,σ,_=>(.error 3,σ)
 |f+1,σ,id=>match σ.view disk id with
  |none=>(.error 3,σ)
  |some n=>if n.leaf=true\/1<n.kids.length then(.ok id,σ)else iV disk f (iK σ id) (n.kids.getD 0 0)
def kY(room:Int)(disk:Int->Option Node):Nat->dR->Part->Except Int Int × dR
 |0,σ,_=>(.error 3,σ)
 |f+1,σ,p=>
  if 1<p.1.length then match cO room (p.1.length+1) σ 0 (aN p.1 p.2)with
   |(.error e,σ1)=>(.error e,σ1)
   |(.ok q,σ1)=>kY room disk f σ1 q
  else match p.1 with
   | []=>(.ok 0,σ)
   |id::_=>iV disk 24 σ id
def xI(room:Int)(disk:Int->Option Node)(g:List En.bT->List En.bT)(key:En.Str)(σ:dR)(root:Int):Except Int Part × dR:=
 if root=0 then cO room (iZ (bU (g []))) σ 0 (bU (g []))else iU room disk g key 24 σ root
def jR(room:Int)(disk:Int->Option Node)(g:List En.bT->List En.bT)(key:En.Str)(σ:dR)(root:Int):Except Int Int × dR:=
 match xI room disk g key σ root with
 |(.error e,σ1)=>(.error e,σ1)
 |(.ok p,σ1)=>kY room disk (p.1.length+1) σ1 p
def rM(disk:Int->Option Node)(σ:dR)(key:En.Str):Nat->Int->Except Int (Option En.Str)
 |0,id=>if id=0 then .ok none else .error 3
 |f+1,id=>if id=0 then .ok none else match σ.view disk id with
  |none=> .error 3
  |some n=>if n.leaf then .ok (En.get n.ents key)else rM disk σ key f (n.kids.getD (child n.keys key) 0)
def place(l:List En.bT)(key:En.Str):Nat:=(l.takeWhile λx=>En.lt x.1 key).length
end Tp
namespace Go.Proofs.YtadnmegdbllaoaaGreatDoor
open Go.RowKit Go.Shelf Tryz
structure Fr(S:Nat->Prop)(w w':World):Prop where
 os:w'.os=w.os
 tape:w'.tape=w.tape
 output:w'.output=w.output
 size:w.heap.size<=w'.heap.size
 block:∀k,k<w.heap.size->¬S k->w'.heap[k]? =w.heap[k]?
section
variable {S S':Nat->Prop}{w w' w'':World}
theorem Fr.refl(w:World):Fr S w w:=⟨rfl,rfl,rfl,aK,λ_ _ _=>rfl⟩
theorem Fr.of_below(h:Below w.heap.size w w'):Fr S w w':=⟨h.os,h.tape,h.output,h.size,λk hk _=>h.block k hk⟩
theorem Fr.trans(h:Fr S w w')(h':Fr S w' w''):Fr S w w'':=
 ⟨h'.os.trans h.os,h'.tape.trans h.tape,h'.output.trans h.output,acN h.size h'.size,λk hk a=>(h'.block k (ak6 hk h.size) a).trans (h.block k hk a)⟩
theorem Fr.then_(h:Fr S w w')(h':Below w'.heap.size w' w''):Fr S w w'':=h.trans (.of_below h')
theorem Fr.more(h:Fr S w w')(hS:∀k,S k->S' k):Fr S' w w':=⟨h.os,h.tape,h.output,h.size,λk hk a=>h.block k hk (λb=>a (hS k b))⟩
theorem Fr.blk(h:Fr S w w'){g:Nat}{ty:TypeId}{cs:Array Value}(hB:aO w g ty cs)(hg:¬S g):aO w' g ty cs:=(h.block g hB.lt hg).trans hB
theorem Fr.dO{g i:Nat}(hg:S g)(v:Value):Fr S w (w.setCell ⟨g,i,none⟩ v):=by
 have h:=mg (World.grownBy.refl w (some g)) (p:=⟨g,i,none⟩) (.inl rfl) v;exact⟨h.os,h.tape,h.output,h.size,λk hk a=>h.block k hk (λe=>by injection e with e;subst e;exact a hg)⟩
theorem Fr.low{B:Nat}(h:Fr S w w')(hB:B<=w.heap.size)(hS:∀k,S k->B<=k):Below B w w':=⟨h.os,h.tape,h.output,h.size,λk hk=>h.block k ak (λa=>by have:=hS k a;omega)⟩
theorem LO.fr{α:Type}{E:Enc α}{ty:TypeId}{base:Nat}{v:Value}{l:List α}(h:LO E ty w base v l)(hf:Fr S w w')(hS:∀k,S k->k<base):LO E ty w' base v l:=by
 obtain⟨h1,h2⟩:=h;refine⟨h1, ?_⟩;rcases h2 with h2 | ⟨g,cap,cur,e1,e2,e3,e4⟩
 ·exact .inl h2
 ·exact .inr ⟨g,cap,cur,e1,e2,(hf.block g (Array.getElem?_eq_some_iff.1 e3).1 (λa=>by have:=hS g a;omega)).trans e3,e4⟩
theorem LO.fr'{α:Type}{E:Enc α}{ty:TypeId}{base:Nat}{v:Value}{l:List α}(h:LO E ty w base v l)(hf:Fr S w w')(hS:∀k,S k->k<base):LO E ty w' base v l:=h.fr hf hS
end
def NF(lo:Nat)(w:World)(v:Value)(n:Nd.Node):Prop:=∃Ae ce Ai ci Ay cy,v=dw n.leaf Ae n.ents.length ce Ai n.kids.length ci Ay n.keys.length cy/\LO gV 94 w lo (.slice Ae n.ents.length ce) n.ents/\LO fZ 3 w lo (.slice Ai n.kids.length ci) n.kids/\LO keyE 9 w lo (.slice Ay n.keys.length cy) n.keys
section
variable {S:Nat->Prop}{w w':World}{lo lo':Nat}{v:Value}{n:Nd.Node}
theorem NF.ns(h:NF lo w v n):NS w v n:=by
 obtain⟨Ae,ce,Ai,ci,Ay,cy,e,h1,h2,h3⟩:=h;exact⟨Ae,ce,Ai,ci,Ay,cy,e,h1.sv,h2.sv,h3.sv⟩
theorem NF.below(h:NF lo w v n)(hb:Below w.heap.size w w'):NF lo w' v n:=by
 obtain⟨Ae,ce,Ai,ci,Ay,cy,e,h1,h2,h3⟩:=h;exact⟨Ae,ce,Ai,ci,Ay,cy,e,h1.below hb,h2.below hb,h3.below hb⟩
theorem NF.lower(h:NF lo w v n)(hl:lo'<=lo):NF lo' w v n:=by
 obtain⟨Ae,ce,Ai,ci,Ay,cy,e,h1,h2,h3⟩:=h;exact⟨Ae,ce,Ai,ci,Ay,cy,e,h1.lower hl,h2.lower hl,h3.lower hl⟩
theorem NF.fr(h:NF lo w v n)(hf:Fr S w w')(hS:∀k,S k->k<lo):NF lo w' v n:=by
 obtain⟨Ae,ce,Ai,ci,Ay,cy,e,h1,h2,h3⟩:=h;exact⟨Ae,ce,Ai,ci,Ay,cy,e,h1.fr hf hS,h2.fr hf hS,h3.fr hf hS⟩
end
def yN(Ai:Option Addr)(ni ci:Nat)(Ay:Option Addr)(ny cy:Nat):Value:= .agg #[.slice Ai ni ci, .slice Ay ny cy]
def PF(lo:Nat)(w:World)(v:Value)(p:Tp.Part):Prop:=∃Ai ci Ay cy,v=yN Ai p.1.length ci Ay p.2.length cy/\LO fZ 3 w lo (.slice Ai p.1.length ci) p.1/\LO keyE 9 w lo (.slice Ay p.2.length cy) p.2
section
variable {S:Nat->Prop}{w w':World}{lo lo':Nat}{v:Value}{p:Tp.Part}
theorem PF.below(h:PF lo w v p)(hb:Below w.heap.size w w'):PF lo w' v p:=by
 obtain⟨Ai,ci,Ay,cy,e,h2,h3⟩:=h;exact⟨Ai,ci,Ay,cy,e,h2.below hb,h3.below hb⟩
theorem PF.fr(h:PF lo w v p)(hf:Fr S w w')(hS:∀k,S k->k<lo):PF lo w' v p:=by
 obtain⟨Ai,ci,Ay,cy,e,h2,h3⟩:=h;exact⟨Ai,ci,Ay,cy,e,h2.fr hf hS,h3.fr hf hS⟩
end
theorem aX{S:Nat->Prop}{w:World} :Fr S w w:=Fr.refl w
section
variable {F:Fence}{n:Nat}{P:Program}{ops:Array Oper}{Q:Exit->Act->World->Prop}{md:Region.Mode}
theorem kS{L:Array Bool}{i:Nat}(h:i∈adv md ops L):i<ops.size/\L.getD i true=false/\∀o,ops[i]? =some o->∀e∈o.after.toList,agp md e=true->L.getD e.on false=true:=by
 unfold adv at h;rw[adx]at h;obtain⟨h1,h2⟩:=h;rw[acJ]at h2;refine⟨adq.1 h1,by simpa using h2.1,λo ho e he hb=> ?_⟩;have h3:=h2.2;rw[ho]at h3;simp only[ads,agK]at h3;rw[Array.all_eq_true']at h3;have h4:=h3 e (adf.1 he);rw[hb]at h4;simpa using h4
theorem wH{L:Array Bool}(h:adv md ops L= [])(hs:L.size=ops.size)(mP:((ac9 ops.size).all λi=>((ops[i]?).map λo=>o.after.toList.all λe=> !agp md e||decide (e.on<i)).getD true)=true):∀i,i<ops.size->L.getD i false=true:=by
 intro i
 induction i using Nat.strongRecOn with
 |_ i ih=>
  intro hi
  cases hb:L.getD i false with
  |true=>rfl
  |false=>
   have hL:i<L.size:=by omega
   have zW:L[i]=false:=by simpa[ac5,hL]using hb
   have jk:i∈adv md ops L:=by
    unfold adv;rw[adx];refine⟨adq.2 hi, ?_⟩;rw[acJ];refine⟨by simp[ac5,hL,zW], ?_⟩;have hl:=adg.1 mP i (adq.2 hi);rw[ag8 hi]at hl ⊢;simp only[ads,agK]at hl ⊢;rw[adg]at hl;rw[Array.all_eq_true'];intro e he;have h1:=hl e (adf.2 he);rw[Bool.or_eq_true]at h1 ⊢;rcases h1 with h1 | h1
    ·exact .inl h1
    ·have h1:=of_decide_eq_true h1;exact .inr (ih e.on h1 ak)
   rw[h]at jk
   cases jk
end
theorem kU{L:Array Bool}{i:Nat}(h:i<L.size):(L.setIfInBounds i true).getD i false=true:=by simp[ac5,h]
theorem gu{L:Array Bool}{i j:Nat}(h:i≠j):(L.setIfInBounds i true).getD j false=L.getD j false:=by
 simp[ac5];split<;>simp_all
structure Is(base:Nat) where
 own:Option Nat
 p:Value->World->Prop
 up:∀v W W' S,p v W->Fr S W W'->(∀k,S k->k<base/\own≠some k)->p v W'
def Is.any(base:Nat):Is base:=⟨none,λ_ _=>True,λ_ _ _ _ _ _ _=>trivial⟩
def Is.eq(base:Nat)(v:Value):Is base:=⟨none,λx _=>x=v,λ_ _ _ _ h _ _=>h⟩
def Is.blk(base:Nat)(ty:TypeId)(n:Nat)(cs:Array Value):Is base:=⟨none,λv W=>∃b,base<=b/\v= .slice (some ⟨b,0,none⟩) n n/\aO W b ty cs,λ_ _ _ _ ⟨b,h0,h1,h2⟩ hf hS=>⟨b,h0,h1,hf.blk h2 (λa=>by have:=hS b a;omega)⟩⟩
def Is.row(base:Nat){α:Type}(E:Enc α)(ty:TypeId)(l:List α):Is base:=⟨none,λv W=>LO E ty W base v l/\∃A c,v= .slice A l.length c,λ_ _ _ _ h hf hS=>⟨LO.fr' h.1 hf (λk a=>(hS k a).1),h.2⟩⟩
def Is.node(base:Nat)(n:Nd.Node):Is base:=⟨none,λv W=>NF base W v n,λ_ _ _ _ h hf hS=>h.fr hf (λk a=>(hS k a).1)⟩
def Is.put(base g:Nat)(n:Nd.Node):Is base:=⟨some g,λ_ W=>∃cs,NF base W (.agg cs) n/\aO W g 188 cs,λ_ _ _ _ ⟨cs,h1,h2⟩ hf hS=>⟨cs,h1.fr hf (λk a=>(hS k a).1),hf.blk h2 (λa=>(hS g a).2 rfl)⟩⟩
def Does(o:Oper)(a:Act)(W:World)(R:Value->World->Prop):Prop:=
 (∃v w',(execOp a.eval o).run prog W= .ok (.value v) w'/\R v w')\/(∃w',(execOp a.eval o).run prog W= .ok .skip w'/\R undef w')\/(∃f args,(execOp a.eval o).run prog W= .ok (.enter f args) W/\Calls prog f args W λe w'=>∃v,e= .returned v/\R v w')
theorem Does.wp{o:Oper}{a:Act}{W:World}{R:Value->World->Prop}{K:Act->World->Prop}{Q:Exit->Act->World->Prop}(h:Does o a W R)(hK:∀v w',R v w'->K (a.put o.dst v) w'):o.wp prog a W K Q:=by
 unfold Oper.wp;rcases h with⟨v,w',hr,h⟩ | ⟨w',hr,h⟩ | ⟨f,args,hr,h⟩
 ·rw[hr,Oper.upon_value];exact hK v w' h
 ·rw[hr,Oper.upon_skip];exact hK _ w' h
 ·rw[hr,Oper.upon_enter];refine aac h ?_;rintro e w' ⟨v,rfl,h⟩;exact hK v w' h
def depOn(ops:Array Oper)(i j:Nat):Bool:=((ops[i]?).map λo=>o.after.toList.any λe=>agp .any e&&e.on==j).getD false
abbrev mF {base:Nat} (Vs:List (Is base)) (i:Nat):Is base:=Vs.getD i (Is.any base)
def Qs{base:Nat}(Vs:List (Is base))(k:Nat):Prop:=∃i,(mF Vs i).own=some k
theorem wI{base:Nat}{Vs:List (Is base)}{k:Nat}(h:Qs Vs k):k∈Vs.filterMap (·.own):=by
 obtain⟨i,h⟩:=h;rw[ahu];unfold mF at h;rw[ac6]at h
 cases hg:Vs[i]? with
 |none=>rw[hg]at h;simp[Is.any]at h
 |some x=>rw[hg]at h;exact⟨x,agl hg,h⟩
theorem DW{base:Nat} :∀ {Vs:List (Is base)},(Vs.filterMap (·.own)).Nodup->∀ {i j k},(mF Vs i).own=some k->(mF Vs j).own=some k->i=j
 | [],_,i,j,k,h,_=>by simp[mF,Is.any]at h
 |V::Vs,hn,i,j,k,h1,h2=>by
  have jk:∀ {i:Nat},(mF Vs i).own=some k->k∈Vs.filterMap (·.own):=λ{i} h=>by
   rw[ahu];unfold mF at h;rw[ac6]at h
   cases hg:Vs[i]? with
   |none=>rw[hg]at h;simp[Is.any]at h
   |some x=>rw[hg]at h;exact⟨x,agl hg,h⟩
  cases i with
  |zero=>
   cases j with
   |zero=>rfl
   |succ j=>
    have YA:V.own=some k:=h1;have Na:(mF Vs j).own=some k:=h2;rw[agu YA,acZ]at hn;exact absurd (jk Na) hn.1
  |succ i=>
   have YA:(mF Vs i).own=some k:=h1
   cases j with
   |zero=>
    have Na:V.own=some k:=h2;rw[agu Na,acZ]at hn;exact absurd (jk YA) hn.1
   |succ j=>
    have Na:(mF Vs j).own=some k:=h2
    have ZK:(Vs.filterMap (·.own)).Nodup:=by
     cases hV:V.own with
     |none=>rwa [List.filterMap_cons_none hV]at hn
     |some x=>rw[agu hV,acZ]at hn;exact hn.2
    rw[DW ZK YA Na]
structure Y1{base:Nat}(mk:(Nat->Value)->Act)(Vs:List (Is base))(ops:Array Oper)(w:World)(L:Array Bool)(a:Act)(W:World):Prop where
 sz:L.size=ops.size
 fr:Fr (Qs Vs) w W
 old:∀i k,(mF Vs i).own=some k->L.getD i false=false->W.heap[k]? =w.heap[k]?
 closed:∀j i,L.getD j false=true->depOn ops j i=true->L.getD i false=true
 act:∃u,a=mk u/\∀i,i<ops.size->L.getD i false=true->(mF Vs i).p (u i) W
abbrev Tj {base:Nat} (mk:(Nat->Value)->Act) (Vs:List (Is base)) (i:Nat) (o:Oper) (u:Nat->Value) (W:World):Prop:=
 Does o (mk u) W (λv W'=>(mk u).put o.dst v=mk (λj=>if j=i then v else u j)/\(mF Vs i).p v W'/\Fr (λk=>(mF Vs i).own=some k) W W')
section
variable {base:Nat}{Q:Exit->Act->World->Prop}{ops:Array Oper}{w:World}
theorem W9{md:Region.Mode}(mk:(Nat->Value)->Act)(Vs:List (Is base))(hmd:md= .any)
  (mP:((ac9 ops.size).all λi=>((ops[i]?).map λo=>o.after.toList.all λe=> !agp .any e||decide (e.on<i)).getD true)=true)
  (Me:ops.toList.all (λo=>o.guard.isNone)=true) (fJ:base<=w.heap.size) (dh:∀k,Qs Vs k->k<base) (jF:(Vs.filterMap (·.own)).Nodup)
  (dN:∀i o,ops[i]? =some o->∀u W,Fr (Qs Vs) w W->(∀j k,(mF Vs j).own=some k->(j=i\/depOn ops j i=true)->W.heap[k]? =w.heap[k]?)->(∀j,depOn ops i j=true->(mF Vs j).p (u j) W)->Tj mk Vs i o u W)
  (dM:∀u W,Fr (Qs Vs) w W->(∀i,i<ops.size->(mF Vs i).p (u i) W)->Q .normal (mk u) W):
  ∀fuel L a W,Y1 mk Vs ops w L a W->L.toList.count false<=fuel->wpAny prog md ops Q fuel L a W:=by
 subst hmd
 have uj:∀L a W,Y1 mk Vs ops w L a W->adv .any ops L= []->Q .normal a W:=by
  rintro L a W ⟨hs,hb,_,_,u,rfl,hu⟩ hr;have au:=wH hr hs mP;exact dM u W hb (λi hi=>hu i hi (au i hi))
 intro fuel
 induction fuel with
 |zero=>
  intro L a W hI hc
  have hr:adv .any ops L= []:=by
   cases hr:adv .any ops L with
   |nil=>rfl
   |cons i r=>
    have hm:=kS (md:= .any) (ops:=ops) (L:=L) (i:=i) (by rw[hr];exact aae ..);have hL:i<L.size:=by have:=hI.sz;omega
    have h2:=hm.2.1;have h3:L[i]=false:=by simpa[ac5,hL]using h2
    have h4:L.toList.count false=0:=by omega
    rw[akM]at h4;exact absurd (by rw[<-h3];exact adf.2 (agU hL)) h4
  exact⟨hr,uj L a W hI hr⟩
 |succ fuel ih=>
  intro L a W hI hc;refine⟨uj L a W hI,λi hi=> ?_⟩;have hm:=kS hi;have hL:i<L.size:=by have:=hI.sz;omega
  have h3:L[i]=false:=by simpa[ac5,hL]using hm.2.1
  have nH:(L.setIfInBounds i true).toList.count false<=fuel:=by
   have h5:(L.setIfInBounds i true).toList=L.toList.set i true:=by simp
   rw[h5,ala (by simpa using hL)];have h6:L.toList[i]'(by simpa using hL)=false:=by simpa using h3
   rw[h6];have h7:0<L.toList.count false:=akL.2 (by rw[<-h3];exact adf.2 (agU hL));simp;simp at hc h7;omega
  obtain⟨hs,hb,N7,qP,u,rfl,hu⟩:=hI;obtain⟨o,ho⟩:∃o,ops[i]? =some o:=⟨_,ag8 hm.1⟩
  have hg:o.guard=none:=by
   have:=adg.1 Me o (adf.2 (Array.mem_of_getElem? ho));simpa using this
  have aj:∀j,depOn ops i j=true->(mF Vs j).p (u j) W:=by
   intro j hj;unfold depOn at hj;rw[ho]at hj;simp only[ads,agK,agq,acJ,beq_iff_eq]at hj;obtain⟨e,he,hbd,rfl⟩:=hj;have h1:=hm.2.2 o ho e he hbd;refine hu e.on ?_ h1
   have h2:e.on<L.size:=by
    by_cases h:e.on<L.size
    ·exact h
    ·simp[ac5,h]at h1
   omega
  have hd:=dN i o ho u W hb (λj k hk hj=>N7 j k hk (by
   rcases hj with rfl | hj
   ·simpa[ac5,hL]using h3
   ·cases hl:L.getD j false with
    |false=>rfl
    |true=>
     have:=qP j i hl hj
     simp[ac5,hL,h3]at this)) aj
  unfold wpOp;rw[ho];simp only;rw[if_pos (by simp[adi,hg])];refine .inl (hd.wp ?_);rintro v W' ⟨e1,hv,zW⟩;rw[e1];refine ih _ _ _ ⟨by simp[hs],hb.trans (zW.more λk hk=>⟨i,hk⟩), ?_, ?_,_,rfl, ?_⟩ nH
  ·intro j k hk yw;have qg:j≠i:=λe=>by subst e;rw[kU hL]at yw;cases yw
   rw[gu (ahc qg)]at yw;have h1:=dh k ⟨j,hk⟩;have h2:=hb.size;rw[zW.block k ak (λsV=>qg (DW jF hk sV))];exact N7 j k hk yw
  ·intro j i' hj N8;by_cases qg:i=j
   ·subst qg;unfold depOn at N8;rw[ho]at N8;simp only[ads,agK,agq,acJ,beq_iff_eq]at N8;obtain⟨e,he,hbd,rfl⟩:=N8;have h1:=hm.2.2 o ho e he hbd;by_cases h2:i=e.on
    ·rw[<-h2];exact kU hL
    ·rw[gu h2];by_cases h:e.on<L.size
     ·simpa[ac5,h]using h1
     ·simp[ac5,h]at h1
   ·rw[gu qg]at hj;have h1:=qP j i' hj N8;by_cases h2:i=i'
    ·rw[<-h2];exact kU hL
    ·rw[gu h2];exact h1
  intro j hj yw;by_cases qg:j=i
  ·subst qg;rw[if_pos rfl];exact hv
  ·rw[if_neg qg];rw[gu (ahc qg)]at yw;exact(mF Vs j).up _ _ _ _ (hu j hj yw) zW (λk hk=>⟨dh k ⟨i,hk⟩,λsV=>qg (DW jF sV hk)⟩)
theorem II{id:Nat}{a:Act}(mk:(Nat->Value)->Act)(Vs:List (Is base))
  (hm:prog.follows .mixedOrders=true)
  (mP:((ac9 ops.size).all λi=>((ops[i]?).map λo=>o.after.toList.all λe=> !agp .any e||decide (e.on<i)).getD true)=true)
  (Me:ops.toList.all (λo=>o.guard.isNone)=true) (L:List Nat) (hL:Vs.filterMap (·.own)=L) (fJ:base<=w.heap.size) (dh:∀k∈L,k<base) (jF:L.Nodup)
  (ha:∃u,a=mk u)
  (dN:∀i o,ops[i]? =some o->∀u W,Fr (λk=>k∈L) w W->(∀j k,(mF Vs j).own=some k->(j=i\/depOn ops j i=true)->W.heap[k]? =w.heap[k]?)->(∀j,depOn ops i j=true->(mF Vs j).p (u j) W)->Tj mk Vs i o u W)
  (dM:∀u W,Fr (λk=>k∈L) w W->(∀i,i<ops.size->(mF Vs i).p (u i) W)->Q .normal (mk u) W):(aj8 id ops true).wp prog Q a w:=by
 subst hL;refine wp_region_any hm (W9 (w:=w) mk Vs rfl mP Me fJ (λk hk=>dh k (wI hk)) jF (λi o ho u W hf=>dN i o ho u W (hf.more λ_=>wI)) (λu W hf=>dM u W (hf.more λ_=>wI)) _ _ _ _ ⟨by simp, .of_below (aai w.heap.size w).drew,λ_ _ _ _=>rfl, ?_, ?_⟩ ?_)
 ·intro j i hj;by_cases h:j<ops.size<;>simp[ac5,h]at hj
 ·obtain⟨u,rfl⟩:=ha;exact⟨u,rfl,λi hi h=>by simp[ac5,hi]at h⟩
 ·simp
theorem gZ{id:Nat}{a:Act}(mk:(Nat->Value)->Act)(Vs:List (Is base))
  (hm:prog.follows .mixedOrders=true)
  (mP:((ac9 ops.size).all λi=>((ops[i]?).map λo=>o.after.toList.all λe=> !agp .any e||decide (e.on<i)).getD true)=true)
  (Me:ops.toList.all (λo=>o.guard.isNone)=true) (L:List Nat) (hL:Vs.filterMap (·.own)=L) (fJ:base<=w.heap.size) (dh:∀k∈L,k<base) (jF:L.Nodup)
  (ha:∃u,a=mk u)
  (dN:∀i o,ops[i]? =some o->∀u W,Fr (λk=>k∈L) w W->(∀k,(mF Vs i).own=some k->W.heap[k]? =w.heap[k]?)->(∀j,depOn ops i j=true->(mF Vs j).p (u j) W)->Tj mk Vs i o u W)
  (dM:∀u W,Fr (λk=>k∈L) w W->(∀i,i<ops.size->(mF Vs i).p (u i) W)->Q .normal (mk u) W):(aj8 id ops true).wp prog Q a w:=
 II mk Vs hm mP Me L hL fJ dh jF ha (λi o ho u W hf hold aj=>dN i o ho u W hf (λk hk=>hold i k hk (.inl rfl)) aj) dM
structure ahJ{base:Nat}(mk:(Nat->Value)->Act)(Vs:List (Is base))(ops:Array Oper)(n:Nat)(w:World)(L:Array Bool)(a:Act)(W:World):Prop where
 sz:L.size=ops.size
 fr:Fr (Qs Vs) w W
 old:∀i k,(mF Vs i).own=some k->L.getD i false=false->W.heap[k]? =w.heap[k]?
 lst:L.getD n false=false
 act:∃u,a=mk u/\∀i,i<n->L.getD i false=true->(mF Vs i).p (u i) W
theorem Xa{md:Region.Mode}{n:Nat}(mk:(Nat->Value)->Act)(Vs:List (Is base))(hmd:md= .any)(hn:ops.size=n+1)
  (mP:((ac9 ops.size).all λi=>((ops[i]?).map λo=>o.after.toList.all λe=> !agp .any e||decide (e.on<i)).getD true)=true)
  (oC:((ac9 n).all λi=>depOn ops n i)=true)
  (Me:ops.toList.all (λo=>o.guard.isNone)=true) (fJ:base<=w.heap.size) (dh:∀k,Qs Vs k->k<base) (jF:(Vs.filterMap (·.own)).Nodup)
  (dN:∀i o,i<n->ops[i]? =some o->∀u W,Fr (Qs Vs) w W->(∀k,(mF Vs i).own=some k->W.heap[k]? =w.heap[k]?)->(∀j,depOn ops i j=true->(mF Vs j).p (u j) W)->Tj mk Vs i o u W)
  (dM:∀o,ops[n]? =some o->∀u W,Fr (Qs Vs) w W->(∀i,i<n->(mF Vs i).p (u i) W)->Does o (mk u) W (λv W'=>Q .normal ((mk u).put o.dst v) W')):
  ∀fuel L a W,ahJ mk Vs ops n w L a W->L.toList.count false<=fuel->wpAny prog md ops Q fuel L a W:=by
 subst hmd;have IY:∀ (L:Array Bool),L.size=ops.size->adv .any ops L= []->L.getD n false=true:=λL hs hr=>wH hr hs mP n ak
 have au:∀ (L:Array Bool),(∀i,i<ops.size->L.getD i false=true)->L.size=ops.size->adv .any ops L= []:=λL hL hs=>by
  cases hr:adv .any ops L with
  |nil=>rfl
  |cons i r=>
   have hm:=kS (md:= .any) (ops:=ops) (L:=L) (i:=i) (by rw[hr];exact aae ..);have h1:=hL i hm.1;have h2:=hm.2.1;have h3:i<L.size:=by have:=hm.1;omega
   simp[ac5,h3]at h1 h2;rw[h1]at h2;cases h2
 intro fuel
 induction fuel with
 |zero=>
  intro L a W hI hc
  exfalso
  have hL:n<L.size:=by have:=hI.sz;omega
  have h4:L.toList.count false=0:=by omega
  rw[akM]at h4;have h3:L[n]=false:=by simpa[ac5,hL]using hI.lst
  exact h4 (by rw[<-h3];exact adf.2 (agU hL))
 |succ fuel ih=>
  intro L a W hI hc;refine⟨λhr=>(by have:=IY L hI.sz hr;rw[hI.lst]at this;cases this),λi hi=> ?_⟩;have hm:=kS hi;have hL:i<L.size:=by have:=hI.sz;omega
  have h3:L[i]=false:=by simpa[ac5,hL]using hm.2.1
  have nH:(L.setIfInBounds i true).toList.count false<=fuel:=by
   have h5:(L.setIfInBounds i true).toList=L.toList.set i true:=by simp
   rw[h5,ala (by simpa using hL)];have h6:L.toList[i]'(by simpa using hL)=false:=by simpa using h3
   rw[h6];have h7:0<L.toList.count false:=akL.2 (by rw[<-h3];exact adf.2 (agU hL));simp;simp at hc h7;omega
  obtain⟨hs,hb,N7,BO,u,rfl,hu⟩:=hI;obtain⟨o,ho⟩:∃o,ops[i]? =some o:=⟨_,ag8 hm.1⟩
  have hg:o.guard=none:=by
   have:=adg.1 Me o (adf.2 (Array.mem_of_getElem? ho));simpa using this
  have uj:∀j,depOn ops i j=true->L.getD j false=true:=by
   intro j hj;unfold depOn at hj;rw[ho]at hj;simp only[ads,agK,agq,acJ,beq_iff_eq]at hj;obtain⟨e,he,hbd,rfl⟩:=hj;exact hm.2.2 o ho e he hbd
  have hlt:∀j,depOn ops i j=true->j<i:=by
   intro j hj;unfold depOn at hj;rw[ho]at hj;simp only[ads,agK,agq,acJ,beq_iff_eq]at hj;obtain⟨e,he,hbd,rfl⟩:=hj;have h1:=adg.1 mP i (adq.2 hm.1);rw[ho]at h1;simp only[ads,agK,adg]at h1;have h2:=h1 e he;rw[hbd]at h2;simpa using h2
  unfold wpOp;rw[ho];simp only;rw[if_pos (by simp[adi,hg])];by_cases pW:i=n
  ·subst pW;have hd:=dM o ho u W hb (λj hj=>hu j hj (uj j (adg.1 oC j (adq.2 hj))));refine .inl (hd.wp ?_);intro v W' hQ
   have apL:∀j,j<ops.size->(L.setIfInBounds i true).getD j false=true:=λj hj=>by
    by_cases h:i=j
    ·subst h;exact kU hL
    ·rw[gu h];exact uj j (adg.1 oC j (adq.2 ak))
   have hr:=au (L.setIfInBounds i true) apL (by simp[hs])
   cases fuel with
   |zero=>exact⟨hr,hQ⟩
   |succ fuel=>exact⟨λ_=>hQ,λj hj=>by rw[hr]at hj;cases hj⟩
  ·have hi2:i<n:=by have:=hm.1;omega
   have hd:=dN i o hi2 ho u W hb (λk hk=>N7 i k hk (by simpa[ac5,hL]using h3)) (λj hj=>hu j (by have:=hlt j hj;omega) (uj j hj));refine .inl (hd.wp ?_);rintro v W' ⟨e1,hv,zW⟩;rw[e1];refine ih _ _ _ ⟨by simp[hs],hb.trans (zW.more λk hk=>⟨i,hk⟩), ?_,by rw[gu pW];exact BO,_,rfl, ?_⟩ nH
   ·intro j k hk yw;have qg:j≠i:=λe=>by subst e;rw[kU hL]at yw;cases yw
    rw[gu (ahc qg)]at yw;have h1:=dh k ⟨j,hk⟩;have h2:=hb.size;rw[zW.block k ak (λsV=>qg (DW jF hk sV))];exact N7 j k hk yw
   ·intro j hj yw;by_cases qg:j=i
    ·subst qg;rw[if_pos rfl];exact hv
    ·rw[if_neg qg];rw[gu (ahc qg)]at yw;exact(mF Vs j).up _ _ _ _ (hu j hj yw) zW (λk hk=>⟨dh k ⟨i,hk⟩,λsV=>qg (DW jF sV hk)⟩)
theorem tH{id:Nat}{a:Act}(n:Nat)(mk:(Nat->Value)->Act)(Vs:List (Is base))
  (hm:prog.follows .mixedOrders=true) (hn:ops.size=n+1)
  (mP:((ac9 ops.size).all λi=>((ops[i]?).map λo=>o.after.toList.all λe=> !agp .any e||decide (e.on<i)).getD true)=true)
  (oC:((ac9 n).all λi=>depOn ops n i)=true)
  (Me:ops.toList.all (λo=>o.guard.isNone)=true) (L:List Nat) (hL:Vs.filterMap (·.own)=L) (fJ:base<=w.heap.size) (dh:∀k∈L,k<base) (jF:L.Nodup)
  (ha:∃u,a=mk u)
  (dN:∀i o,i<n->ops[i]? =some o->∀u W,Fr (λk=>k∈L) w W->(∀k,(mF Vs i).own=some k->W.heap[k]? =w.heap[k]?)->(∀j,depOn ops i j=true->(mF Vs j).p (u j) W)->Tj mk Vs i o u W)
  (dM:∀o,ops[n]? =some o->∀u W,Fr (λk=>k∈L) w W->(∀i,i<n->(mF Vs i).p (u i) W)->Does o (mk u) W (λv W'=>Q .normal ((mk u).put o.dst v) W')):(aj8 id ops true).wp prog Q a w:=by
 subst hL;refine wp_region_any hm (Xa (w:=w) mk Vs rfl hn mP oC Me fJ (λk hk=>dh k (wI hk)) jF (λi o hi ho u W hf=>dN i o hi ho u W (hf.more λ_=>wI)) (λo ho u W hf=>dM o ho u W (hf.more λ_=>wI)) _ _ _ _ ⟨by simp, .of_below (aai w.heap.size w).drew,λ_ _ _ _=>rfl,by simp[ac5,hn], ?_⟩ ?_)
 ·obtain⟨u,rfl⟩:=ha;exact⟨u,rfl,λi hi h=>by have:i<ops.size:=ak;simp[ac5,this]at h⟩
 ·simp
end
abbrev dF {base:Nat} (v:Value):Is base:=Is.eq base v
abbrev jH {base:Nat} (g k:Nat):Is base:=Is.eq base (.pointer (some ⟨g,k,none⟩))
def mX:Value->Nat
 | .pointer (some a)=>a.block
 | .slice (some a) _ _=>a.block
 |_=>0
structure Fl(base:Nat) where
 own:Option Nat
 tgt:Option Nat
 new:Option (Option (TypeId × Array Value))
 p:Value->Value->World->Prop
 up:∀x v W W' S,p x v W->Fr S W W'->(∀k,S k->(k<base/\own≠some k)\/(base<=k/\(new=some none->mX v≠k)/\(tgt.isSome=true->mX x≠k)))->p x v W'
def Fl.any(base:Nat):Fl base:=⟨none,none,none,λ_ _ _=>True,λ_ _ _ _ _ _ _ _=>trivial⟩
def Fl.is(base:Nat)(q:Value->Prop):Fl base:=⟨none,none,none,λ_ v _=>q v,λ_ _ _ _ _ h _ _=>h⟩
def Fl.eq(base:Nat)(v:Value):Fl base:= .is base (· =v)
def Fl.box(base:Nat)(ty:TypeId)(cs:Array Value):Fl base:=⟨none,none,some (some (ty,cs)),λ_ v _=>∃b,v= .pointer (some ⟨b,0,none⟩),λ_ _ _ _ _ h _ _=>h⟩
def Fl.fill(base j:Nat)(ty:TypeId)(cs:Array Value):Fl base:=⟨none,some j,none,λx _ W=>base<=mX x/\aO W (mX x) ty cs,λ_ _ _ _ _ ⟨h0,h⟩ hf hS=>⟨h0,hf.blk h λhk=>by
 rcases hS _ hk with⟨h1,_⟩ | ⟨_,_,h2⟩
 ·omega
 ·exact h2 rfl rfl⟩⟩
def Fl.row(base:Nat)(ty:TypeId)(n:Nat)(cs:Array Value):Fl base:=⟨none,none,some none,λ_ v W=>∃b,base<=b/\v= .slice (some ⟨b,0,none⟩) n n/\aO W b ty cs,λ_ _ _ _ _ ⟨b,h0,h1,h2⟩ hf hS=>⟨b,h0,h1,hf.blk h2 λhk=>by
 rcases hS _ hk with⟨h3,_⟩ | ⟨_,h3,_⟩
 ·omega
 ·rw[h1]at h3;exact h3 rfl rfl⟩⟩
def Fl.turn(base g:Nat)(ty:TypeId)(cs:Array Value)(hg:g<base):Fl base:=⟨some g,none,none,λ_ _ W=>aO W g ty cs,λ_ _ _ _ _ h hf hS=>hf.blk h λhk=>by
 rcases hS _ hk with⟨_,h3⟩ | ⟨h3,_⟩
 ·exact h3 rfl
 ·omega⟩
section
variable {base:Nat}
abbrev cZ (Vs:List (Fl base)) (i:Nat):Fl base:=Vs.getD i (Fl.any base)
def AY(Vs:List (Fl base))(u:Nat->Value)(i:Nat):Value:=match (cZ Vs i).tgt with
 |some j=>u j
 |none=>undef
structure FlF(Vs:List (Fl base))(n:Nat)(D:Nat->Prop)(u:Nat->Value)(W:World):Prop where
 p:∀i,i<n->D i->(cZ Vs i).p (AY Vs u i) (u i) W
 new:∀i,i<n->D i->(cZ Vs i).new.isSome=true->base<=mX (u i)/\mX (u i)<W.heap.size
 ne:∀i j,i<n->j<n->D i->D j->(cZ Vs i).new.isSome=true->(cZ Vs j).new.isSome=true->i≠j->mX (u i)≠mX (u j)
 zero:∀i ty cs,i<n->D i->(cZ Vs i).new=some (some (ty,cs))->(∀s,s<n->(cZ Vs s).tgt=some i->¬D s)->aO W (mX (u i)) ty cs
structure aki(mk:(Nat->Value)->Act)(Vs:List (Fl base))(ops:Array Oper)(F:Nat->Prop)(C:List Nat)(oH:Nat->World->Prop)(w:World)(L:Array Bool)(a:Act)(W:World):Prop where
 sz:L.size=ops.size
 fr:Fr (λk=>F k\/∃i,(cZ Vs i).own=some k) w W
 old:∀i k,(cZ Vs i).own=some k->L.getD i false=false->W.heap[k]? =w.heap[k]?
 closed:∀j i,L.getD j false=true->depOn ops j i=true->L.getD i false=true
 st:∃j,j<=C.length/\(∀ (t i:Nat),C[t]? =some i->(L.getD i false=true ↔ t<j))/\oH j W
 act:∃u,a=mk u/\FlF Vs ops.size (λi=>L.getD i false=true) u W
def aY(mk:(Nat->Value)->Act)(Vs:List (Fl base))(ops:Array Oper)(oH:Nat->World->Prop)(i:Nat)(o:Oper)(u:Nat->Value)(W:World):Prop:=
 (adi o (yielded ops (mk u).tmps)=true/\Does o (mk u) W λv W'=>(mk u).put o.dst v=mk (λj=>if j=i then v else u j)/\(cZ Vs i).p (AY Vs u i) v W'/\
  Fr (λk=>(cZ Vs i).own=some k\/((cZ Vs i).tgt.isSome=true/\k=mX (AY Vs u i))) W W'/\(∀j,oH j W->oH j W')/\
  ((cZ Vs i).new.isSome=true->W.heap.size<=mX v/\mX v<W'.heap.size/\∀ty cs,(cZ Vs i).new=some (some (ty,cs))->aO W' (mX v) ty cs))\/
 (adi o (yielded ops (mk u).tmps)=false/\(mk u).put o.dst undef=mk (λj=>if j=i then undef else u j)/\(cZ Vs i).p (AY Vs u i) undef W/\(cZ Vs i).new=none)
def ad1(mk:(Nat->Value)->Act)(Vs:List (Fl base))(ops:Array Oper)(F:Nat->Prop)(oH:Nat->World->Prop)(t i:Nat)(o:Oper)(u:Nat->Value)(W:World):Prop:=
 adi o (yielded ops (mk u).tmps)=true/\Does o (mk u) W λv W'=>(mk u).put o.dst v=mk (λj=>if j=i then v else u j)/\(cZ Vs i).p undef v W'/\Fr F W W'/\oH (t+1) W'
variable {Q:Exit->Act->World->Prop}{ops:Array Oper}{w:World}
theorem aB{o:Oper}{y:Nat->Option Bool}(h:o.guard=none):adi o y=true:=by simp[adi,h]
theorem JZ{Vs:List (Fl base)}{L:Array Bool}{u:Nat->Value}{v:Value}{W W':World}{i:Nat}{S:Nat->Prop}{n:Nat}(hL2:i<L.size)(iL:L.getD i false=false)
  (jP:∀s j,(cZ Vs s).tgt=some j->L.getD s false=true->L.getD j false=true) (hti:∀j,(cZ Vs i).tgt=some j->j≠i)
  (fJ:base<=W.heap.size) (hf:FlF Vs n (λi=>L.getD i false=true) u W) (hp:(cZ Vs i).p (AY Vs u i) v W') (hF:Fr S W W')
  (hS:∀k,S k->(k<base/\∀j,j≠i->(cZ Vs j).own≠some k)\/∃j,(cZ Vs i).tgt=some j/\k=mX (u j)/\L.getD j false=true/\j<n/\∀s,(cZ Vs s).tgt=some j->s=i)
  (zY:(cZ Vs i).new.isSome=true->W.heap.size<=mX v/\mX v<W'.heap.size/\∀ty cs,(cZ Vs i).new=some (some (ty,cs))->aO W' (mX v) ty cs)
  (htn:∀s j,(cZ Vs s).tgt=some j->j<n/\∃z,(cZ Vs j).new=some (some z)) (pW:i<n):
  FlF Vs n (λj=>(L.setIfInBounds i true).getD j false=true) (λj=>if j=i then v else u j) W':=by
 have hd:∀j,(L.setIfInBounds i true).getD j false=true->j=i\/(j≠i/\L.getD j false=true):=λj hj=>by
  by_cases e:j=i
  ·exact .inl e
  ·rw[gu (ahc e)]at hj;exact .inr ⟨e,hj⟩
 have dL:∀j,L.getD j false=true->j≠i:=λj hj e=>by subst e;rw[iL]at hj;cases hj
 have htv:∀s,L.getD s false=true->AY Vs (λj=>if j=i then v else u j) s=AY Vs u s:=λs hs=>by
  unfold AY
  cases h:(cZ Vs s).tgt with
  |none=>rfl
  |some j=>
   simp only;rw[if_neg (dL j (jP s j h hs))]
 have avj:AY Vs (λj=>if j=i then v else u j) i=AY Vs u i:=by
  unfold AY
  cases h:(cZ Vs i).tgt with
  |none=>rfl
  |some j=>
   simp only;rw[if_neg (hti j h)]
 refine⟨λj hj hdj=> ?_,λj hj hdj hn=> ?_,λj j' hj hj' hdj apM hn ZK hjj=> ?_,λj ty cs hj hdj hn hs=> ?_⟩
 ·rcases hd j hdj with rfl | ⟨h1,h2⟩
  ·rw[avj];simp only[if_true];exact hp
  ·rw[htv j h2];simp only[if_neg h1];refine(cZ Vs j).up _ _ _ _ _ (hf.p j hj h2) hF λk hk=> ?_;rcases hS k hk with⟨h3,h4⟩ | ⟨j0,h3,rfl,h5,h6,h8⟩
   ·exact .inl ⟨h3,h4 j h1⟩
   ·obtain⟨z,hz⟩:=(htn i j0 h3).2;refine .inr ⟨(hf.new j0 h6 h5 (by rw[hz];rfl)).1,λVZ=> ?_,λhtj=> ?_⟩
    ·refine hf.ne j j0 hj h6 h2 h5 (by rw[VZ];rfl) (by rw[hz];rfl) λe=> ?_;rw[e,hz]at VZ
     cases VZ
    ·cases h:(cZ Vs j).tgt with
     |none=>rw[h]at htj;cases htj
     |some j1=>
      obtain⟨h9,z1,gI⟩:=htn j j1 h;have e1:AY Vs u j=u j1:=by unfold AY;rw[h]
      rw[e1];refine hf.ne j1 j0 h9 h6 (jP j j1 h h2) h5 (by rw[gI];rfl) (by rw[hz];rfl) λe=> ?_;subst e;exact h1 (h8 j h)
 ·rcases hd j hdj with rfl | ⟨h1,h2⟩
  ·simp only[if_true];have:=zY hn;omega
  ·simp only[if_neg h1];have:=hf.new j hj h2 hn;have:=hF.size;omega
 ·rcases hd j hdj with rfl | ⟨h1,h2⟩
  ·rcases hd j' apM with e | ⟨h3,h4⟩
   ·exact absurd e.symm hjj
   ·simp only[if_true,if_neg h3];have:=zY hn;have:=hf.new j' hj' h4 ZK;omega
  ·rcases hd j' apM with rfl | ⟨h3,h4⟩
   ·simp only[if_true,if_neg h1];have:=zY ZK;have:=hf.new j hj h2 hn;omega
   ·simp only[if_neg h1,if_neg h3];exact hf.ne j j' hj hj' h2 h4 hn ZK hjj
 ·rcases hd j hdj with rfl | ⟨h1,h2⟩
  ·simp only[if_true];exact(zY (by rw[hn];rfl)).2.2 ty cs hn
  ·simp only[if_neg h1]
   have hz:=hf.zero j ty cs hj h2 hn λs hs' hts hds=>hs s hs' hts (by
    by_cases e:s=i
    ·subst e;rw[iL]at hds;cases hds
    ·rw[gu (ahc e)];exact hds)
   refine hF.blk hz λhk=> ?_;rcases hS _ hk with⟨h3,_⟩ | ⟨j0,h3,h4,h5,h6,h8⟩
   ·have:=(hf.new j hj h2 (by rw[hn];rfl)).1;omega
   ·obtain⟨z,iR⟩:=(htn i j0 h3).2;by_cases e:j=j0
    ·subst e;refine hs i pW h3 ?_;by_cases hL:i<L.size
     ·exact kU hL
     ·exact absurd hL2 hL
    ·exact hf.ne j j0 hj h6 h2 h5 (by rw[hn];rfl) (by rw[iR];rfl) e h4
def dT(ops:Array Oper):Nat->Nat->Nat->Bool
 |0,_,_=>false
 |n+1,j,i=>depOn ops j i||(ac9 ops.size).any λp=>depOn ops j p&&dT ops n p i
theorem Y2{L:Array Bool}(qP:∀j i,L.getD j false=true->depOn ops j i=true->L.getD i false=true):∀ (n:Nat) {j i:Nat},dT ops n j i=true->L.getD j false=true->L.getD i false=true
 |0,_,_,h,_=>by cases h
 |n+1,j,i,h,hj=>by
  unfold dT at h;rcases Bool.or_eq_true_iff.1 h with h | h
  ·exact qP j i hj h
  ·obtain⟨p,_,h⟩:=agq.1 h;obtain⟨h1,h2⟩:=Bool.and_eq_true_iff.1 h;exact Y2 qP n h2 (qP j p hj h1)
theorem ad2{md:Region.Mode}(mk:(Nat->Value)->Act)(Vs:List (Fl base))(F:Nat->Prop)(C:List Nat)(oH:Nat->World->Prop)(hmd:md= .any)
  (mP:((ac9 ops.size).all λi=>((ops[i]?).map λo=>o.after.toList.all λe=> !agp .any e||decide (e.on<i)).getD true)=true)
  (fJ:base=w.heap.size) (hF:∀k,F k->k<base/\∀j,(cZ Vs j).own≠some k) (dh:∀i k,(cZ Vs i).own=some k->k<base) (ajD:∀i j k,(cZ Vs i).own=some k->(cZ Vs j).own=some k->i=j)
  (CS:∀i j,(cZ Vs i).tgt=some j->depOn ops i j=true/\j<ops.size/\j≠i/\(∃z,(cZ Vs j).new=some (some z))/\(∀s,(cZ Vs s).tgt=some j->s=i))
  (hC:∀ (t i:Nat),C[t]? =some i->i<ops.size/\(cZ Vs i).own=none/\(cZ Vs i).tgt=none/\(cZ Vs i).new=none)
  (anQ:∀ (t i j:Nat),C[t]? =some i->C[t+1]? =some j->depOn ops j i=true)
  (jF:∀ (t t' i:Nat),C[t]? =some i->C[t']? =some i->t=t')
  (dN:∀i o,i ∉ C->ops[i]? =some o->∀u W,Fr (λk=>F k\/∃i,(cZ Vs i).own=some k) w W->(∀k,(cZ Vs i).own=some k->W.heap[k]? =w.heap[k]?)->(∀j,depOn ops i j=true->(cZ Vs j).p (AY Vs u j) (u j) W)->
   (∀j,(cZ Vs i).tgt=some j->base<=mX (u j)/\∀ty cs,(cZ Vs j).new=some (some (ty,cs))->aO W (mX (u j)) ty cs)->(∀n j k,(cZ Vs j).own=some k->dT ops n j i=true->W.heap[k]? =w.heap[k]?)->aY mk Vs ops oH i o u W)
  (yJ:∀ (t i:Nat) (o:Oper),C[t]? =some i->ops[i]? =some o->∀u W,Fr (λk=>F k\/∃i,(cZ Vs i).own=some k) w W->oH t W->(∀j,depOn ops i j=true->(cZ Vs j).p (AY Vs u j) (u j) W)->ad1 mk Vs ops F oH t i o u W)
  (dM:∀u W,Fr (λk=>F k\/∃i,(cZ Vs i).own=some k) w W->oH C.length W->FlF Vs ops.size (λ_=>True) u W->Q .normal (mk u) W):
  ∀fuel L a W,aki mk Vs ops F C oH w L a W->L.toList.count false<=fuel->wpAny prog md ops Q fuel L a W:=by
 subst hmd
 have uj:∀L a W,aki mk Vs ops F C oH w L a W->adv .any ops L= []->Q .normal a W:=by
  rintro L a W ⟨hs,hb,_,_,⟨j,Rx,MB,hj3⟩,u,rfl,hu⟩ hr;have au:=wH hr hs mP
  have hj:j=C.length:=by
   cases hl:C.length with
   |zero=>omega
   |succ m=>
    have hm:C[m]? =some (C[m]'ak):=acU ak;have:=(MB m _ hm).1 (au _ (hC m _ hm).1);omega
  subst hj;exact dM u W hb hj3 ⟨λi hi _=>hu.p i hi (au i hi),λi hi _=>hu.new i hi (au i hi),λi j hi hj _ _=>hu.ne i j hi hj (au i hi) (au j hj),λi ty cs hi _ hn hs=>hu.zero i ty cs hi (au i hi) hn λs fG hts=>absurd trivial (hs s fG hts)⟩
 intro fuel
 induction fuel with
 |zero=>
  intro L a W hI hc
  have hr:adv .any ops L= []:=by
   cases hr:adv .any ops L with
   |nil=>rfl
   |cons i r=>
    have hm:=kS (md:= .any) (ops:=ops) (L:=L) (i:=i) (by rw[hr];exact aae ..);have hL:i<L.size:=by have:=hI.sz;omega
    have h2:=hm.2.1;have h3:L[i]=false:=by simpa[ac5,hL]using h2
    have h4:L.toList.count false=0:=by omega
    rw[akM]at h4;exact absurd (by rw[<-h3];exact adf.2 (agU hL)) h4
  exact⟨hr,uj L a W hI hr⟩
 |succ fuel ih=>
  intro L a W hI hc;refine⟨uj L a W hI,λi hi=> ?_⟩;have hm:=kS hi;have hL:i<L.size:=by have:=hI.sz;omega
  have h3:L[i]=false:=by simpa[ac5,hL]using hm.2.1
  have iL:L.getD i false=false:=by simpa[ac5,hL]using h3
  have nH:(L.setIfInBounds i true).toList.count false<=fuel:=by
   have h5:(L.setIfInBounds i true).toList=L.toList.set i true:=by simp
   rw[h5,ala (by simpa using hL)];have h6:L.toList[i]'(by simpa using hL)=false:=by simpa using h3
   rw[h6];have h7:0<L.toList.count false:=akL.2 (by rw[<-h3];exact adf.2 (agU hL));simp;simp at hc h7;omega
  obtain⟨hs,hb,N7,qP,⟨jc,Rx,MB,hj3⟩,u,rfl,hu⟩:=hI;obtain⟨o,ho⟩:∃o,ops[i]? =some o:=⟨_,ag8 hm.1⟩
  have vG:∀j,depOn ops i j=true->L.getD j false=true:=by
   intro j hj;unfold depOn at hj;rw[ho]at hj;simp only[ads,agK,agq,acJ,beq_iff_eq]at hj;obtain⟨e,he,hbd,rfl⟩:=hj;exact hm.2.2 o ho e he hbd
  have pW:∀j,L.getD j false=true->j<ops.size:=λj hj=>by
   by_cases h:j<L.size
   ·omega
   ·simp[ac5,h]at hj
  have aj:∀j,depOn ops i j=true->(cZ Vs j).p (AY Vs u j) (u j) W:=λj hj=>hu.p j (pW j (vG j hj)) (vG j hj);have alS:∀s j,(cZ Vs s).tgt=some j->L.getD s false=true->L.getD j false=true:=λs j h hs'=>qP s j hs' (CS s j h).1;have htn:∀s j,(cZ Vs s).tgt=some j->j<ops.size/\∃z,(cZ Vs j).new=some (some z):=λs j h=>⟨(CS s j h).2.1,(CS s j h).2.2.2.1⟩
  have alT:∀j i',(L.setIfInBounds i true).getD j false=true->depOn ops j i'=true->(L.setIfInBounds i true).getD i' false=true:=by
   intro j i' hj N8;by_cases qg:i=j
   ·subst qg;have h1:=vG i' N8;by_cases h2:i=i'
    ·rw[<-h2];exact kU hL
    ·rw[gu h2];exact h1
   ·rw[gu qg]at hj;have h1:=qP j i' hj N8;by_cases h2:i=i'
    ·rw[<-h2];exact kU hL
    ·rw[gu h2];exact h1
  have jU:base<=W.heap.size:=by have:=hb.size;omega
  by_cases hiC:i∈C
  ·obtain⟨t,ht,e⟩:=List.mem_iff_getElem.1 hiC;have htC:C[t]? =some i:=by rw[acU ht,e]
   have yh:¬t<jc:=λh=>by
    have:=(MB t i htC).2 h;rw[iL]at this;cases this
   have hle:t<=jc:=by
    cases t with
    |zero=>exact ac4 _
    |succ t=>
     have hp:C[t]? =some (C[t]'ak):=acU ak;have h1:=vG _ (anQ t _ i hp htC);have:=(MB t _ hp).1 h1;omega
   obtain rfl:t=jc:=by omega
   obtain⟨_,q1,q2,q3⟩:=hC t i htC;obtain⟨hw,hd⟩:=yJ t i o htC ho u W hb hj3 aj;unfold wpOp;rw[ho];simp only;rw[if_pos hw];refine .inl (hd.wp ?_);rintro v W' ⟨e1,hv,zW,bG⟩;rw[e1];refine ih _ _ _ ⟨by simp[hs],hb.trans (zW.more λk hk=> .inl hk), ?_,alT,⟨t+1,by omega,λt' i' h'=> ?_,bG⟩,_,rfl, ?_⟩ nH
   ·intro j k hk yw;have qg:j≠i:=λe=>by subst e;rw[kU hL]at yw;cases yw
    rw[gu (ahc qg)]at yw;have h1:=dh j k hk;have h2:=hb.size;rw[zW.block k ak (λsV=>(hF k sV).2 j hk)];exact N7 j k hk yw
   ·by_cases e2:i'=i
    ·subst e2;have:=jF t t' i' htC h';subst this;exact⟨λ_=>by omega,λ_=>kU hL⟩
    ·rw[gu (ahc e2),MB t' i' h'];constructor
     ·intro h;omega
     ·intro h;by_cases e3:t'=t
      ·subst e3;rw[htC]at h';injection h' with h';exact absurd h'.symm e2
      ·omega
   ·refine JZ (S:=F) hL iL alS (λj h=>by rw[q2]at h;cases h) jU hu ?_ zW (λk hk=> .inl ⟨(hF k hk).1,λj _=>(hF k hk).2 j⟩) (λh=>by rw[q3]at h;cases h) htn ak;have:AY Vs u i=undef:=by unfold AY;rw[q2]
    rw[this];exact hv
  ·have apN:∀t' i',C[t']? =some i'->((L.setIfInBounds i true).getD i' false=true ↔ t'<jc):=λt' i' h'=>by
    have e2:i'≠i:=λe=>hiC (e ▸ agl h');rw[gu (ahc e2)];exact MB t' i' h'
   have NZ:=dN i o hiC ho u W hb (λk hk=>N7 i k hk iL) aj (λj hj=>by
    obtain⟨t1,t2,t3,⟨⟨zt,zc⟩,hz⟩,t5⟩:=CS i j hj;have hdj:=vG j t1;refine⟨(hu.new j t2 hdj (by rw[hz];rfl)).1,λty cs hn=>hu.zero j ty cs t2 hdj hn λs hs' hts hds=> ?_⟩;have:=t5 s hts;subst this
    rw[iL]at hds;cases hds) (λn j k hk hd=>N7 j k hk (by
    cases yw:L.getD j false with
    |false=>rfl
    |true=>
     have:=Y2 qP n hd yw
     rw[iL]at this;cases this))
   unfold wpOp;rw[ho];simp only;rcases NZ with⟨hw,hd⟩ | ⟨hw,e1,hv,BU⟩
   ·rw[if_pos hw];refine .inl (hd.wp ?_);rintro v W' ⟨e1,hv,zW,bG,zY⟩;rw[e1]
    have hSo:∀k,((cZ Vs i).own=some k\/((cZ Vs i).tgt.isSome=true/\k=mX (AY Vs u i)))->(k<base/\(cZ Vs i).own=some k)\/∃j,(cZ Vs i).tgt=some j/\k=mX (u j):=λk hk=>by
     rcases hk with hk | ⟨h1,h2⟩
     ·exact .inl ⟨dh i k hk,hk⟩
     ·cases h:(cZ Vs i).tgt with
      |none=>rw[h]at h1;cases h1
      |some j=>
       refine .inr ⟨j,rfl, ?_⟩;rw[h2];unfold AY;rw[h]
    have hbf:Fr (λk=>F k\/∃i,(cZ Vs i).own=some k) w W':=⟨zW.os.trans hb.os,zW.tape.trans hb.tape,zW.output.trans hb.output,acN hb.size zW.size,λk hk hn=>(zW.block k (ak6 hk hb.size) λh=>by
     rcases hSo k h with⟨_,h4⟩ | ⟨j0,h4,h5⟩
     ·exact hn (.inr ⟨i,h4⟩)
     ·have:=(hu.new j0 (CS i j0 h4).2.1 (vG j0 (CS i j0 h4).1) (by obtain⟨z,hz⟩:=(CS i j0 h4).2.2.2.1;rw[hz];rfl)).1
      omega).trans (hb.block k hk hn)⟩
    refine ih _ _ _ ⟨by simp[hs],hbf, ?_,alT,⟨jc,Rx,apN,bG jc hj3⟩,_,rfl, ?_⟩ nH
    ·intro j k hk yw;have qg:j≠i:=λe=>by subst e;rw[kU hL]at yw;cases yw
     rw[gu (ahc qg)]at yw;have h1:=dh j k hk;have h2:=hb.size
     rw[zW.block k ak (λsV=>by
      rcases hSo k sV with⟨_,h4⟩ | ⟨j0,h4,h5⟩
      ·exact qg (ajD j i k hk h4)
      ·have:=(hu.new j0 (CS i j0 h4).2.1 (vG j0 (CS i j0 h4).1) (by obtain⟨z,hz⟩:=(CS i j0 h4).2.2.2.1;rw[hz];rfl)).1
       omega)]
     exact N7 j k hk yw
    ·refine JZ hL iL alS (λj h=>(CS i j h).2.2.1) jU hu hv zW (λk hk=> ?_) zY htn ak;rcases hSo k hk with⟨h4,h5⟩ | ⟨j0,h4,h5⟩
     ·exact .inl ⟨h4,λj qg h6=>qg (ajD j i k h6 h5)⟩
     ·exact .inr ⟨j0,h4,h5,vG j0 (CS i j0 h4).1,(CS i j0 h4).2.1,(CS i j0 h4).2.2.2.2⟩
   ·rw[if_neg (by rw[hw];decide),e1];refine ih _ _ _ ⟨by simp[hs],hb, ?_,alT,⟨jc,Rx,apN,hj3⟩,_,rfl, ?_⟩ nH
    ·intro j k hk yw;have qg:j≠i:=λe=>by subst e;rw[kU hL]at yw;cases yw
     rw[gu (ahc qg)]at yw;exact N7 j k hk yw
    ·exact JZ (S:=λ_=>False) hL iL alS (λj h=>(CS i j h).2.2.1) jU hu hv aX (λk hk=>hk.elim) (λh=>by rw[BU]at h;cases h) htn ak
def Nw(Vs:List (Fl base))(ops:Array Oper)(C:List Nat):Bool:=
 ((ac9 ops.size).all λi=>((ops[i]?).map λo=>o.after.toList.all λe=> !agp .any e||decide (e.on<i)).getD true)&&
 ((ac9 Vs.length).all λi=>match (cZ Vs i).tgt with
  |none=>true
  |some j=>depOn ops i j&&decide (j<ops.size)&&decide (j≠i)&&(match (cZ Vs j).new with
   |some (some _)=>true
   |_=>false)&&(ac9 Vs.length).all λs=>match (cZ Vs s).tgt with
    |none=>true
    |some j'=>decide (j'≠j)||decide (s=i))&&
 (C.all λi=>decide (i<ops.size)&&(cZ Vs i).own.isNone&&(cZ Vs i).tgt.isNone&&(cZ Vs i).new.isNone)&&
 ((ac9 C.length).all λt=>match C[t]?,C[t+1]? with
  |some i,some j=>decide (i<j)&&depOn ops j i
  |_,_=>true)
theorem ahK{Vs:List (Fl base)}{i:Nat}(h:Vs.length<=i):cZ Vs i=Fl.any base:=by
 unfold cZ;rw[ac6,List.getElem?_eq_none h];rfl
theorem ad3{Vs:List (Fl base)}{C:List Nat}(h:Nw Vs ops C=true):∀i j,(cZ Vs i).tgt=some j->depOn ops i j=true/\j<ops.size/\j≠i/\(∃z,(cZ Vs j).new=some (some z))/\(∀s,(cZ Vs s).tgt=some j->s=i):=λi j hij=>by
 unfold Nw at h;simp only[acJ]at h
 have hlt:∀i j,(cZ Vs i).tgt=some j->i<Vs.length:=λi j h=>by
  by_cases hl:i<Vs.length
  ·exact hl
  ·rw[ahK ak]at h;cases h
 have h1:=adg.1 h.1.1.2 i (adq.2 (hlt i j hij));rw[hij]at h1;simp only[acJ,decide_eq_true_eq]at h1;obtain⟨⟨⟨⟨a1,a2⟩,a3⟩,a4⟩,a5⟩:=h1;refine⟨a1,a2,a3, ?_,λs hs=> ?_⟩
 ·split at a4
  ·rename_i z hz;exact⟨z,hz⟩
  ·cases a4
 ·have a6:=adg.1 a5 s (adq.2 (hlt s j hs));rw[hs]at a6;simpa using a6
theorem alU{Vs:List (Fl base)}{C:List Nat}(h:Nw Vs ops C=true):∀ (t i:Nat),C[t]? =some i->i<ops.size/\(cZ Vs i).own=none/\(cZ Vs i).tgt=none/\(cZ Vs i).new=none:=λt i ht=>by
 unfold Nw at h;simp only[acJ]at h;have h1:=adg.1 h.1.2 i (agl ht);simp only[acJ,decide_eq_true_eq,Option.isNone_iff_eq_none]at h1;exact⟨h1.1.1.1,h1.1.1.2,h1.1.2,h1.2⟩
theorem CU{Vs:List (Fl base)}{C:List Nat}(h:Nw Vs ops C=true):∀ (t i j:Nat),C[t]? =some i->C[t+1]? =some j->i<j/\depOn ops j i=true:=λt i j h1 h2=>by
 unfold Nw at h;simp only[acJ]at h;have hl:t<C.length:=(ajS.1 h1).1;have h3:=adg.1 h.2 t (adq.2 hl);rw[h1,h2]at h3;simpa using h3
theorem FM{Vs:List (Fl base)}{C:List Nat}(h:Nw Vs ops C=true):∀ (d t i j:Nat),C[t]? =some i->C[t+d+1]? =some j->i<j
 |0,t,i,j,h1,h2=>(CU h t i j h1 h2).1
 |d+1,t,i,j,h1,h2=>by
  have hl:t+(d+1)+1<C.length:=(ajS.1 h2).1;have hm:C[t+d+1]? =some (C[t+d+1]'ak):=acU ak;have e1:=FM h d t i _ h1 hm;have e2:=(CU h (t+d+1) _ j hm h2).1;omega
theorem BI{id:Nat}{a:Act}(mk:(Nat->Value)->Act)(Vs:List (Fl w.heap.size))(F:Nat->Prop)(C:List Nat)(oH:Nat->World->Prop)
  (hm:prog.follows .mixedOrders=true) (jA:Nw Vs ops C=true) (L:List Nat) (hL:Vs.filterMap (·.own)=L) (jF:L.Nodup) (dh:∀k∈L,k<w.heap.size) (hF:∀k,F k->k<w.heap.size/\k ∉ L)
  (ha:∃u,a=mk u) (h0:oH 0 w.drew)
  (dN:∀i o,i ∉ C->ops[i]? =some o->∀u W,Fr (λk=>F k\/k∈L) w W->(∀k,(cZ Vs i).own=some k->W.heap[k]? =w.heap[k]?)->(∀j,depOn ops i j=true->(cZ Vs j).p (AY Vs u j) (u j) W)->
   (∀j,(cZ Vs i).tgt=some j->w.heap.size<=mX (u j)/\∀ty cs,(cZ Vs j).new=some (some (ty,cs))->aO W (mX (u j)) ty cs)->(∀n j k,(cZ Vs j).own=some k->dT ops n j i=true->W.heap[k]? =w.heap[k]?)->aY mk Vs ops oH i o u W)
  (yJ:∀ (t i:Nat) (o:Oper),C[t]? =some i->ops[i]? =some o->∀u W,Fr (λk=>F k\/k∈L) w W->oH t W->(∀j,depOn ops i j=true->(cZ Vs j).p (AY Vs u j) (u j) W)->ad1 mk Vs ops F oH t i o u W)
  (dM:∀u W,Fr (λk=>F k\/k∈L) w W->oH C.length W->FlF Vs ops.size (λ_=>True) u W->Q .normal (mk u) W):(aj8 id ops true).wp prog Q a w:=by
 subst hL
 have jk:∀i k,(cZ Vs i).own=some k->k∈Vs.filterMap (·.own):=λi k h=>by
  rw[ahu];unfold cZ at h;rw[ac6]at h
  cases hg:Vs[i]? with
  |none=>rw[hg]at h;simp[Fl.any]at h
  |some x=>rw[hg]at h;exact⟨x,agl hg,h⟩
 have dK:∀W,Fr (λk=>F k\/∃i,(cZ Vs i).own=some k) w W->Fr (λk=>F k\/k∈Vs.filterMap (·.own)) w W:=λW h=>h.more λk hk=>hk.imp (λa=>a) fun⟨i,h⟩=>jk i k h
 have ajD:∀ {Vs:List (Fl w.heap.size)},(Vs.filterMap (·.own)).Nodup->∀ {i j k},(cZ Vs i).own=some k->(cZ Vs j).own=some k->i=j:=by
  intro Vs
  induction Vs with
  |nil=>intro _ i j k h;simp[cZ,Fl.any]at h
  |cons V Vs ih=>
   intro hn i j k h1 h2
   have jk:∀ {i:Nat},(cZ Vs i).own=some k->k∈Vs.filterMap (·.own):=λ{i} h=>by
    rw[ahu];unfold cZ at h;rw[ac6]at h
    cases hg:Vs[i]? with
    |none=>rw[hg]at h;simp[Fl.any]at h
    |some x=>rw[hg]at h;exact⟨x,agl hg,h⟩
   cases i with
   |zero=>
    cases j with
    |zero=>rfl
    |succ j=>
     have YA:V.own=some k:=h1;have Na:(cZ Vs j).own=some k:=h2;rw[agu YA,acZ]at hn;exact absurd (jk Na) hn.1
   |succ i=>
    have YA:(cZ Vs i).own=some k:=h1
    cases j with
    |zero=>
     have Na:V.own=some k:=h2;rw[agu Na,acZ]at hn;exact absurd (jk YA) hn.1
    |succ j=>
     have Na:(cZ Vs j).own=some k:=h2
     have ZK:(Vs.filterMap (·.own)).Nodup:=by
      cases hV:V.own with
      |none=>rwa [List.filterMap_cons_none hV]at hn
      |some x=>rw[agu hV,acZ]at hn;exact hn.2
     rw[ih ZK YA Na]
 have mP:((ac9 ops.size).all λi=>((ops[i]?).map λo=>o.after.toList.all λe=> !agp .any e||decide (e.on<i)).getD true)=true:=by
  unfold Nw at jA;simp only[acJ]at jA;exact jA.1.1.1
 refine wp_region_any hm (ad2 (w:=w) mk Vs F C oH rfl mP rfl (λk hk=>⟨(hF k hk).1,λj hj=>(hF k hk).2 (jk j k hj)⟩) (λi k h=>dh k (jk i k h)) (λi j k=>ajD jF) (ad3 jA) (alU jA) (λt i j h1 h2=>(CU jA t i j h1 h2).2) (λt t' i h1 h2=> ?_)
  (λi o hi ho u W hf=>dN i o hi ho u W (dK W hf)) (λt i o ht ho u W hf=>yJ t i o ht ho u W (dK W hf)) (λu W hf=>dM u W (dK W hf)) _ _ _ _ ⟨by simp, .of_below (aai w.heap.size w).drew,λ_ _ _ _=>rfl, ?_, ?_, ?_⟩ ?_)
 ·rcases Nat.lt_trichotomy t t' with h | h | h
  ·have:=FM jA (t'-t-1) t i i h1 (by rw[show t+(t'-t-1)+1=t' by omega];exact h2);omega
  ·exact h
  ·have:=FM jA (t-t'-1) t' i i h2 (by rw[show t'+(t-t'-1)+1=t by omega];exact h1);omega
 ·intro j i hj;by_cases h:j<ops.size<;>simp[ac5,h]at hj
 ·refine⟨0,ac4 _,λt i _=> ?_,h0⟩;by_cases h:i<ops.size<;>simp[ac5,h]
 ·obtain⟨u,rfl⟩:=ha;refine⟨u,rfl,λi hi h=> ?_,λi hi h=> ?_,λi j hi hj h=> ?_,λi ty cs hi h=> ?_⟩<;>simp[ac5,hi]at h
 ·simp
theorem aP{id:Nat}{a:Act}(mk:(Nat->Value)->Act)(Vs:List (Fl w.heap.size))(F:Nat->Prop)(C:List Nat)(oH:Nat->World->Prop)
  (hm:prog.follows .mixedOrders=true) (jA:Nw Vs ops C=true) (L:List Nat) (hL:Vs.filterMap (·.own)=L) (jF:L.Nodup) (dh:∀k∈L,k<w.heap.size) (hF:∀k,F k->k<w.heap.size/\k ∉ L)
  (ha:∃u,a=mk u) (h0:oH 0 w.drew)
  (dN:∀i o,i ∉ C->ops[i]? =some o->∀u W,Fr (λk=>F k\/k∈L) w W->(∀k,(cZ Vs i).own=some k->W.heap[k]? =w.heap[k]?)->(∀j,depOn ops i j=true->(cZ Vs j).p (AY Vs u j) (u j) W)->
   (∀j,(cZ Vs i).tgt=some j->w.heap.size<=mX (u j)/\∀ty cs,(cZ Vs j).new=some (some (ty,cs))->aO W (mX (u j)) ty cs)->aY mk Vs ops oH i o u W)
  (yJ:∀ (t i:Nat) (o:Oper),C[t]? =some i->ops[i]? =some o->∀u W,Fr (λk=>F k\/k∈L) w W->oH t W->(∀j,depOn ops i j=true->(cZ Vs j).p (AY Vs u j) (u j) W)->ad1 mk Vs ops F oH t i o u W)
  (dM:∀u W,Fr (λk=>F k\/k∈L) w W->oH C.length W->FlF Vs ops.size (λ_=>True) u W->Q .normal (mk u) W):(aj8 id ops true).wp prog Q a w:=
 BI mk Vs F C oH hm jA L hL jF dh hF ha h0 (λi o hi ho u W hf hold aj jP _=>dN i o hi ho u W hf hold aj jP) yJ dM
theorem aY.val{mk:(Nat->Value)->Act}{Vs:List (Fl base)}{oH:Nat->World->Prop}{i:Nat}{o:Oper}{u:Nat->Value}{W:World}{v:Value}(hr:(execOp (mk u).eval o).run prog W= .ok (.value v) W)(hg:o.guard=none)(he:(mk u).put o.dst v=mk (λj=>if j=i then v else u j))(hp:(cZ Vs i).p (AY Vs u i) v W)(hn:(cZ Vs i).new=none):aY mk Vs ops oH i o u W:=
 .inl ⟨aB hg, .inl ⟨v,W,hr,he,hp,aX,λ_ h=>h,λh=>by rw[hn]at h;cases h⟩⟩
theorem aY.mem{mk:(Nat->Value)->Act}{Vs:List (Fl base)}{oH:Nat->World->Prop}{i:Nat}{o:Oper}{u:Nat->Value}{W:World}{v:Value}{ty:TypeId}{cs:Array Value}(hr:(execOp (mk u).eval o).run prog W= .ok (.value v) (W.alloc (.cells cs ty)))(hg:o.guard=none)(he:(mk u).put o.dst v=mk (λj=>if j=i then v else u j))(hv:mX v=W.heap.size)
  (hp:(cZ Vs i).p (AY Vs u i) v (W.alloc (.cells cs ty))) (hn:(cZ Vs i).new=some (some (ty,cs))\/(cZ Vs i).new=some none) (hS:∀j,oH j W->oH j (W.alloc (.cells cs ty))):aY mk Vs ops oH i o u W:=
 .inl ⟨aB hg, .inl ⟨v,_,hr,he,hp, .of_below (aU.alloc aK _),hS,λ_=>⟨by omega,by rw[hv,World.size_alloc];omega,λty' cs' h=>by
  rcases hn with hn | hn
  ·rw[hn]at h;injection h with h;injection h with h;injection h with h1 h2;subst h1 h2;rw[hv];exact aO.new _ _ _
  ·rw[hn]at h;cases h⟩⟩⟩
theorem aY.put{mk:(Nat->Value)->Act}{Vs:List (Fl base)}{oH:Nat->World->Prop}{i:Nat}{o:Oper}{u:Nat->Value}{W W':World}{g:Nat}(hr:(execOp (mk u).eval o).run prog W= .ok .skip W')(hg:o.guard=none)(he:(mk u).put o.dst undef=mk (λj=>if j=i then undef else u j))
  (hp:(cZ Vs i).p (AY Vs u i) undef W') (hf:Fr (λk=>k=g) W W') (hgo:(cZ Vs i).own=some g\/((cZ Vs i).tgt.isSome=true/\g=mX (AY Vs u i))) (hn:(cZ Vs i).new=none) (hS:∀j,oH j W->oH j W'):aY mk Vs ops oH i o u W:=
 .inl ⟨aB hg, .inr (.inl ⟨W',hr,he,hp,hf.more λk hk=>by rw[hk];exact hgo,hS,λh=>by rw[hn]at h;cases h⟩)⟩
theorem aT{tmps:Array Value}{j:Nat}{v:Value}{b:Bool}(h:((ops[j]?).bind (·.dst)).bind (tmps[·]?)=some v)(hv:v= .bool b):yielded ops tmps j=some b:=by
 unfold yielded;rw[h,hv]
theorem bI{o:Oper}{y:Nat->Option Bool}{j:Nat}{b c:Bool}(hg:o.guard=some (j,b))(hy:y j=some c):adi o y=(c==b):=by
 unfold adi;rw[hg];simp only[hy]
 cases b<;>cases c<;>rfl
theorem aY.nS{mk:(Nat->Value)->Act}{Vs:List (Fl base)}{oH:Nat->World->Prop}{i:Nat}{o:Oper}{u:Nat->Value}{W:World}{v:Value}(hw:adi o (yielded ops (mk u).tmps)=true)(hr:(execOp (mk u).eval o).run prog W= .ok (.value v) W)(he:(mk u).put o.dst v=mk (λj=>if j=i then v else u j))(hp:(cZ Vs i).p (AY Vs u i) v W)(hn:(cZ Vs i).new=none):aY mk Vs ops oH i o u W:=
 .inl ⟨hw, .inl ⟨v,W,hr,he,hp,aX,λ_ h=>h,λh=>by rw[hn]at h;cases h⟩⟩
theorem aY.skip{mk:(Nat->Value)->Act}{Vs:List (Fl base)}{oH:Nat->World->Prop}{i:Nat}{o:Oper}{u:Nat->Value}{W:World}(hw:adi o (yielded ops (mk u).tmps)=false)(he:(mk u).put o.dst undef=mk (λj=>if j=i then undef else u j))(hp:(cZ Vs i).p (AY Vs u i) undef W)(hn:(cZ Vs i).new=none):aY mk Vs ops oH i o u W:=
 .inr ⟨hw,he,hp,hn⟩
theorem aY.same{mk:(Nat->Value)->Act}{Vs:List (Fl base)}{oH:Nat->World->Prop}{i:Nat}{o:Oper}{u:Nat->Value}{W W':World}(hr:(execOp (mk u).eval o).run prog W= .ok .skip W')(hg:o.guard=none)(he:(mk u).put o.dst undef=mk (λj=>if j=i then undef else u j))(hp:(cZ Vs i).p (AY Vs u i) undef W')(hf:Fr (λ_=>False) W W')(hn:(cZ Vs i).new=none)(hS:∀j,oH j W->oH j W'):aY mk Vs ops oH i o u W:=
 .inl ⟨aB hg, .inr (.inl ⟨W',hr,he,hp,hf.more λ_ h=>h.elim,hS,λh=>by rw[hn]at h;cases h⟩)⟩
theorem ahL{W:World}{g i:Nat}{ty:TypeId}{cs:Array Value}{v:Value}(hB:aO W g ty cs)(h:cs.setIfInBounds i v=cs):Fr (λ_=>False) W (W.setCell ⟨g,i,none⟩ v):=by
 have h1:=Fr.dO (S:=λk=>k=g) (w:=W) (g:=g) (i:=i) rfl v;refine⟨h1.os,h1.tape,h1.output,h1.size,λk hk _=> ?_⟩;by_cases e:k=g
 ·subst e;have h2:=hB.dO i v;rw[h]at h2;exact h2.trans hB.symm
 ·exact h1.block k hk e
theorem aY.oh{mk:(Nat->Value)->Act}{Vs:List (Fl base)}{oH:Nat->World->Prop}{i:Nat}{o:Oper}{u:Nat->Value}{W:World}{g j:Nat}{ty:TypeId}{cs:Array Value}(hx:∃w',(execOp (mk u).eval o).run prog W= .ok .skip w'/\aO w' g ty cs/\Fr (λk=>k=g) W w')(hg:o.guard=none)(he:(mk u).put o.dst undef=mk (λj=>if j=i then undef else u j))
  (hV:cZ Vs i=Fl.fill base j ty cs) (hu:u j= .pointer (some ⟨g,0,none⟩)) (hb:base<=g) (hS:∀w',Fr (λk=>k=g) W w'->∀j,oH j W->oH j w'):aY mk Vs ops oH i o u W:=by
 obtain⟨w',hr,hB,hf⟩:=hx
 have ht:AY Vs u i= .pointer (some ⟨g,0,none⟩):=by
  unfold AY;rw[hV];exact hu
 refine aY.put hr hg he ?_ hf (.inr ⟨?_, ?_⟩) ?_ (hS w' hf)
 ·rw[hV,ht];exact⟨hb,hB⟩
 ·rw[hV];rfl
 ·rw[ht];rfl
 ·rw[hV];rfl
theorem aY.yD{mk:(Nat->Value)->Act}{Vs:List (Fl base)}{oH:Nat->World->Prop}{i:Nat}{o:Oper}{u:Nat->Value}{W:World}{g:Nat}{ty:TypeId}{cs:Array Value}{hlt:g<base}(hx:∃w',(execOp (mk u).eval o).run prog W= .ok .skip w'/\aO w' g ty cs/\Fr (λk=>k=g) W w')(hg:o.guard=none)(he:(mk u).put o.dst undef=mk (λj=>if j=i then undef else u j))
  (hV:cZ Vs i=Fl.turn base g ty cs hlt) (hS:∀w',Fr (λk=>k=g) W w'->∀j,oH j W->oH j w'):aY mk Vs ops oH i o u W:=by
 obtain⟨w',hr,hB,hf⟩:=hx;refine aY.put hr hg he ?_ hf (.inl ?_) ?_ (hS w' hf)
 ·rw[hV];exact hB
 ·rw[hV];rfl
 ·rw[hV];rfl
theorem aY.apO{mk:(Nat->Value)->Act}{Vs:List (Fl base)}{oH:Nat->World->Prop}{i:Nat}{o:Oper}{u:Nat->Value}{W:World}{g:Nat}{ty:TypeId}{cs:Array Value}(hx:∃w',(execOp (mk u).eval o).run prog W= .ok .skip w'/\aO w' g ty cs/\Fr (λk=>k=g) W w')(hB:aO W g ty cs)(hg:o.guard=none)(he:(mk u).put o.dst undef=mk (λj=>if j=i then undef else u j))(hp:cZ Vs i=Fl.any base)(hS:∀w',Fr (λk=>k=g) W w'->∀j,oH j W->oH j w'):aY mk Vs ops oH i o u W:=by
 obtain⟨w',hr,hB',hf⟩:=hx;refine aY.same hr hg he (by rw[hp];trivial) ⟨hf.os,hf.tape,hf.output,hf.size,λk hk _=> ?_⟩ (by rw[hp];rfl) (hS w' hf);by_cases e:k=g
 ·subst e;exact hB'.trans hB.symm
 ·exact hf.block k hk e
theorem sv{mk:(Nat->Value)->Act}{Vs:List (Fl base)}{oH:Nat->World->Prop}{i:Nat}{o o':Oper}{u:Nat->Value}{W:World}{v:Value}(h:some o'=some o)(hr:(execOp (mk u).eval o').run prog W= .ok (.value v) W)(hp:(cZ Vs i).p (AY Vs u i) v W:=by exact rfl)(hg:o'.guard=none:=by exact rfl)(he:(mk u).put o'.dst v=mk (λj=>if j=i then v else u j):=by exact rfl)(hn:(cZ Vs i).new=none:=by exact rfl):aY mk Vs ops oH i o u W:=by
 cases h
 exact aY.val hr hg he hp hn
theorem FlF.q{Vs:List (Fl base)}{n:Nat}{u:Nat->Value}{W:World}(h:FlF Vs n (λ_=>True) u W)(i:Nat){v:Value}(hV:cZ Vs i=Fl.eq base v:=by exact rfl)(hi:i<n:=by decide):u i=v:=by
 have h2:=h.p i hi trivial;rw[hV]at h2;exact h2
theorem fw{F:Nat->Prop}{B:Nat}{L:List Nat}{w W:World}{g:Nat}{ty:TypeId}{cs:Array Value}(hF:Hid (∀k,F k->k<B))(hf:Fr (λk=>F k\/k∈L) w W)(hB:Hid (aO w g ty cs))(hg:B<=g:=by omega)(hL:g ∉ L:=by first | (simp;done) | (simp;omega)):aO W g ty cs:=hf.blk hB λa=>a.elim (λa=>by have:=hF.out g a;omega) hL
def Fl.gd(base:Nat)(b c:Bool)(v:Value):Fl base:= .is base λx=>b=c->x=v
theorem svg{mk:(Nat->Value)->Act}{Vs:List (Fl base)}{oH:Nat->World->Prop}{i:Nat}{o o':Oper}{u:Nat->Value}{W:World}{v:Value}{b c:Bool}{j:Nat}(h:some o'=some o)(hy:yielded ops (mk u).tmps j=some b)(hr:b=c->(execOp (mk u).eval o').run prog W= .ok (.value v) W)(hV:cZ Vs i=Fl.gd base b c v:=by exact rfl)(hg:o'.guard=some (j,c):=by exact rfl)(he:∀v,(mk u).put o'.dst v=mk (λj=>if j=i then v else u j):=by exact λ_=>rfl):aY mk Vs ops oH i o u W:=by
 cases h
 by_cases e:b=c
 ·refine aY.nS ?_ (hr e) (he v) (by rw[hV];exact λ_=>rfl) (by rw[hV];rfl);rw[bI hg hy,e];cases c<;>rfl
 ·refine aY.skip ?_ (he undef) (by rw[hV];exact λa=>absurd a e) (by rw[hV];rfl);rw[bI hg hy]
  cases b<;>cases c<;>first | rfl | exact absurd rfl e
end
abbrev aF {base:Nat} (v:Value):Fl base:=Fl.eq base v
abbrev bf {base:Nat} (g k:Nat):Fl base:=Fl.eq base (.pointer (some ⟨g,k,none⟩))
end Go.Proofs.YtadnmegdbllaoaaGreatDoor
