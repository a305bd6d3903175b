/- Part of this proof. -/
import Derived.BigRegion
import Derived.Deep.RegionWith
import Derived.Test.YtadnmegdbllaoaaGreatDoorK914
import Derived.Test.YtadnmegdbllaoaaGreatDoorK915
set_option maxRecDepth 100000
set_option maxHeartbeats 8000000
open And renaming intro->ahr
open Array.mk renaming injEq->ajV
open Bool renaming and_eq_true->acJ,eq_iff_iff->ajC
open Except.ok renaming injEq->ajN
open Go.Calls renaming mono->aac
open Go.Ending renaming returned->akO
open Go.Exit renaming inBlock->ac3
open Go.Lib renaming toList_data->akV,join->akH
open Go.RowKit.Below renaming refl->aai
open Go.Value renaming slice->ady
open Go.Value.agg renaming injEq->ajE
open Go.Value.slice renaming injEq->aho
open Go.World renaming size_alloc->aad
open Go.World.ownsRow renaming lt->ada
open List renaming drop_sublist->aj0,getElem?_eq_getElem->acU,getElem_mem->acT,length_append->aag,length_cons->acH,length_drop->acP,length_nil->adh,length_take->acR,mem_append->aaf,mem_cons_of_mem->acF,mem_cons_self->aae,mem_filter->adx,mem_singleton->acI,replicate->ajR,take_sublist->ajW
open List.Sublist renaming refl->aha
open List.cons renaming injEq->ajF
open Nat renaming le_trans->acN,zero_le->ac4
open Option.some renaming injEq->ahn
open Prod.mk renaming injEq->agS
namespace Go.Proofs.YtadnmegdbllaoaaGreatDoor
open Go.RowKit Go.Shelf Tryz
theorem aex:Builder.Extra prog Tryz.lays156_ren where
 sizeBuilder:=by kernel_rfl
 liesBuilder:=by kernel_rfl
 t5:=underlying5
 a5:=Tryz.isAgg5
 z5:=Tryz.sizeOf5
 v5:=Tryz.zeroValue5
 infoByte:=by kernel_rfl
 cellsByte:=by kernel_rfl
 sizeByte:=by kernel_rfl
 neB5:=by decide
theorem aa9(bk c:Nat)(xs:List ByteArray)(w:World)(Dp:∀ (j:Nat) x,xs[j]? =some x->w.cell? ⟨bk,0+j,none⟩=some (.string x))(Nj:bk<w.heap.size)(hN:xs.length<=140737488355328)(axM:xs.length<=c)
  (hlen:(akH (xs.map (·.data.toList)) (⟨#[]⟩:ByteArray).data.toList).length<=140737488355328):
  Calls prog 191 #[.slice (some ⟨bk,0,none⟩) xs.length c, .string ⟨#[]⟩] w λe w'=>e= .returned (.string ⟨(akH (xs.map (·.data.toList)) (⟨#[]⟩:ByteArray).data.toList).toArray⟩)/\Below w.heap.size w w':=
 Any.strings_Join Tryz.lays156 aex bk 0 c xs ⟨#[]⟩ w Dp Nj hN axM hlen
theorem Xx(x:List UInt8)(xs:List (List UInt8)):akH (x::xs) []=x++akH xs []:=by
 cases xs with
 |nil=>simp[akH,List.intercalate]
 |cons y ys=>simp[akH,List.intercalate]
def aqc:List UInt8:=ajR 256 0
theorem Kz(t m f n k:Nat)(free:List Run)(pages:Int)(D:DataW Value)(id q kind:Int)(s:ByteArray)(hid:(Lit.int .i64 id).wf=true)(hh:Maps.has D (.int .i64 id)=true)(hd:∀z,D.atKey (.int .i64 id) z= .held (content true q s))(w:World)(h:uH w t m f n free pages k D):
  Calls prog 144 #[.pointer (some ⟨t,0,none⟩), .int .i64 id, .int .u8 kind] w λe w'=>e= .returned (if q=kind then .tuple #[.string s, .int .i64 0]else .tuple #[.string ⟨#[]⟩, .int .i64 3])/\Below w.heap.size w w':=by
 obtain⟨_,⟨v,h2,h3⟩,h4⟩:=h;have hlt:=h2.lt;have hc:=h2.cell 3;obtain⟨u,ps,vP,hu⟩:=h4.look_ok Qz underlying104 (Tryz.zeroValue252 w) (Kw _ _ _) (ahZ hid);rw[hd,hh]at*;obtain⟨b,q',s',rfl,hz⟩:=O1 hu;have hz:=(Prod.mk.inj hz).1;injection hz with hz;rw[<-hz]at vP;unfold content at vP;clear hu hz h4 hd hh;by_cases e:q=kind
 ·subst e;rw[if_pos rfl];go_enter func144,ntmps144
  go_wp2;go_ret2;exact⟨rfl,(aai _ w).alloc aK _⟩
 ·rw[if_neg e];have hq:(q != kind)=true:=by simpa using e
  go_enter func144,ntmps144
  go_wp2;go_ret2;exact⟨rfl,(aai _ w).alloc aK _⟩
end Go.Proofs.YtadnmegdbllaoaaGreatDoor
namespace Go.Proofs.YtadnmegdbllaoaaGreatDoor
open Go.RowKit Go.Shelf Go.Maps Tryz
end Go.Proofs.YtadnmegdbllaoaaGreatDoor
namespace Go.Proofs.YtadnmegdbllaoaaGreatDoor
open Go.RowKit Go.Shelf Tryz
def fresh(n:Nat):Dk:= { sure:=ajR n aqc,now:=λ_=>none,pend:= [],left:= -1,down:=false,reads:=0,writes:=0 }
structure kZ(D:DataW Value)(mine:List Int):Prop where
 tidy:Maps.Tidy D
 has:∀x,Maps.has D (.int .i64 x)=decide (x∈mine)
 size:Maps.size D=mine.length
theorem kZ.nil_:kZ (.map []) []:=⟨Maps.tidy_empty,λ_=>rfl,rfl⟩
theorem kZ.al9{D:DataW Value}{mine:List Int}(h:kZ D mine){id:Int}(hid:id ∉ mine)(v:DataW Value):kZ (D.put (.int .i64 id) v) (mine++ [id]):=by
 refine⟨h.tidy.put (by trivial) v,λx=> ?_, ?_⟩
 ·rw[Ui h.tidy.isMap,h.has];rw[ajC];simp;exact⟨λh=>h.symm,λh=>h.symm⟩
 ·rw[Maps.size_put h.tidy,h.has,decide_eq_false hid,if_neg aH,h.size];simp
theorem KA:∀ {l:List Int} {id:Int},l.Nodup->id∈l->(l.filter λx=>x != id).length+1=l.length
 | [],_,_,h=>by cases h
 |y::l,id,hn,h=>by
  obtain⟨h1,h2⟩:=List.nodup_cons.1 hn;rw[List.filter_cons];by_cases e:y=id
  ·subst e;rw[if_neg aH,Rp.tC h1,acH]
  ·rw[if_pos (by simpa using e),acH,acH,KA h2 (by rcases List.mem_cons.1 h with h | h;exact absurd h.symm e;exact h)]
theorem kZ.aqd{D:DataW Value}{mine:List Int}(h:kZ D mine)(hn:mine.Nodup)(id:Int):kZ (Hr D id) (mine.filter λx=>x != id):=by
 unfold Hr;rw[h.has];by_cases hid:id∈mine
 ·rw[decide_eq_true hid,if_pos rfl];refine⟨h.tidy.del _,λx=> ?_, ?_⟩
  ·rw[aew,h.has,ajC];simp[adx];exact⟨λh=>⟨h.2,h.1⟩,λh=>⟨h.2,h.1⟩⟩
  ·have h1:=Maps.size_del (k:= .int .i64 id) h.tidy;rw[h.has,decide_eq_true hid,if_pos rfl,h.size]at h1;have h2:=KA hn hid;omega
 ·rw[decide_eq_false hid,Rp.tC hid];exact h
theorem ah3{room p:Int}{fr used:List Run}{mine:List Int}{D:DataW Value}(h:Rp.Ap room fr used mine p)(hk:kZ D mine)(id:Int):Rp.Ap room (D8 fr D id) used (mine.filter λx=>x != id) p:=by
 unfold D8;rw[hk.has];by_cases hid:id∈mine
 ·rw[decide_eq_true hid,if_pos rfl];exact h.dropped hid
 ·rw[decide_eq_false hid,Rp.tC hid];exact h
theorem kZ.aqe{D:DataW Value}{mine:List Int}(h:kZ D mine){id:Int}(hid:id∈mine)(v:DataW Value):kZ (D.put (.int .i64 id) v) mine:=by
 refine⟨h.tidy.put (by trivial) v,λx=> ?_, ?_⟩
 ·rw[Ui h.tidy.isMap,h.has];rw[ajC];simp;rintro rfl;exact hid
 ·rw[Maps.size_put h.tidy,h.has,decide_eq_true hid,if_pos rfl,h.size]
section
variable {w w':World}{t m f n k:Nat}{free:List Run}{pages:Int}{D:DataW Value}{S':Nat->Prop}
theorem uH.fr(h:uH w t m f n free pages k D)(hf:Fr S' w w')(avx:∀b,S' b->∀o,w.heap[b]? =some o->Far o):uH w' t m f n free pages k D:=by
 have key:∀b o,w.heap[b]? =some o->¬Far o->w'.heap[b]? =some o:=λb o ho hn=>(hf.block b (Array.getElem?_eq_some_iff.1 ho).1 (λa=>hn (avx b a o ho))).trans ho;obtain⟨⟨d,h1,cs,A,c,h2,h3⟩,⟨v,h4,h5⟩,es,ck,h6,h7⟩:=h;refine⟨⟨d,key _ _ h1 (λa=>a.2.2.1 _ rfl),cs,A,c,key _ _ h2 (λa=>a.2.2.2.1 _ rfl),h3⟩,⟨v,key _ _ h4 (λa=>a.2.1 _ rfl), ?_⟩,es,ck,key _ _ h6 (λa=>a.2.2.2.2 _ _ rfl),h7⟩;rcases h5 with⟨e1,e2 | ⟨g,cap,cur,hv,hb,hh,hr⟩⟩
 ·exact⟨e1, .inl e2⟩
 ·exact⟨e1, .inr ⟨g,cap,cur,hv,hb,key _ _ hh (λa=>a.1 _ rfl),hr⟩⟩
theorem uH.tight(h:uH w t m f n free pages k D):uH w t m f n free pages (Maps.size D) D:=by
 obtain⟨h1,h2,es,ck,h6,h7,h8,h9⟩:=h;refine⟨h1,h2,es,ck,h6,h7, ?_,h9⟩;rw[h9];exact Nat.le_of_eq (length_read es).symm
end
structure yL(B t m f n:Nat)(r:Nat)(σ:Tp.dR)(w:World):Prop where
 low:t<B/\m<B/\B<=w.heap.size
 ap:Rp.Ap (max (n:Int) 2) σ.free [] σ.mine σ.pages
 fit:∀id,id∈σ.mine->∀x,σ.nd id=some x->Nd.fits x=true
 txn:∃D,uH w t m f n σ.free σ.pages σ.mine.length D/\kZ D σ.mine/\∀id,id∈σ.mine->∀x,σ.nd id=some x->∀z,D.atKey (.int .i64 id) z= .held (content true (if x.leaf then 1 else 2) (Nd.str (Nd.enc x)))
section
variable {B t m f n r r':Nat}{σ:Tp.dR}{w w':World}{S':Nat->Prop}
theorem yL.up(h:yL B t m f n r σ w)(hf:Fr S' w w')(hS:ah0 B w S'):yL B t m f n r σ w':=by
 obtain⟨h1,h2,h3,D,h4,h5⟩:=h;exact⟨⟨h1.1,h1.2.1,acN h1.2.2 hf.size⟩,h2,h3,D,h4.fr hf (λb a=>(hS b a).2),h5⟩
theorem yL.less(h:yL B t m f n r σ w):yL B t m f n r' σ w:=⟨h.low,h.ap,h.fit,h.txn⟩
theorem wJ{id:Int}{x:Nd.Node}(hv:σ.view (λ_=>none) id=some x):id∈σ.mine/\σ.nd id=some x:=by
 unfold Tp.dR.view at hv;split at hv
 ·rename_i hm;exact⟨hm,hv⟩
 ·split at hv<;>cases hv
theorem yL.ah4(h:yL B t m f n r σ w){id:Int}(hm:id∈σ.mine):tV id:=by
 have h1:=h.ap.hm id hm;have h2:=h.ap.pg;unfold tV;omega
theorem yL.fresh(h:yL B t m f n r σ w)(id:Int)(hid:tV id):
  Calls prog 207 #[.pointer (some ⟨t,0,none⟩), .int .i64 id] w λe w'=>e= .returned (.bool (decide (id∈σ.mine)))/\yL B t m f n r σ w'/\Fr (λk=>k=t\/k=m) w w':=by
 obtain⟨D,h4,h5,h6⟩:=h.txn;refine(xP t m f n _ _ _ D id hid.wf w h4).mono ?_;rintro e w1 ⟨rfl,hb⟩;exact⟨by rw[h5.has],h.up (.of_below hb) (λk (a:False)=>a.elim), .of_below hb⟩
theorem O5:∀ (l:List Run) (lo p:Int),Rp.Canon lo l->(∀x,Rp.Mem l x->x<p)->2*(l.length:Int)<=max 0 (p-lo+1)
 | [],lo,p,_,_=>by simp;omega
 |a::l,lo,p,h,hm=>by
  obtain⟨h1,h2,h3,h4⟩:=h;have ih:=O5 l (a.2+2) p h4 (λx ⟨b,hb,hx⟩=>hm x ⟨b,acF _ hb,hx⟩);have:=hm a.2 ⟨a,aae,h2,Int.le_refl _⟩;rw[acH];omega
theorem D9{room p:Int}{fr used:List Run}{mine:List Int}(h:Rp.Ap room fr used mine p):fr.length<=80000/\mine.length<=100000:=by
 have hp:=h.pg;have h1:=O5 fr 0 p h.cf (λx hx=>(h.hf x hx).2);refine⟨by omega, ?_⟩
 have MJ:mine ⊆ (List.range 100000).map (λi:Nat=>(2:Int)+(i:Int)):=λx hx=>by
  have:=h.hm x hx;exact List.mem_map.2 ⟨(x-2).toNat,List.mem_range.2 ak,by omega⟩
 have:=List.Nodup.length_le_of_subset h.nd MJ;simpa using this
theorem Touch.fr{t m:Nat}{w w':World}(h:Touch t m w w'):Fr (λk=>k=t\/k=m) w w':=⟨h.os,h.tape,h.output,h.size,λk hk a=>h.block k hk (λe=>a (.inl e)) (λe=>a (.inr e))⟩
theorem yL.get(h:yL B t m f n r σ w){id:Int}{x:Nd.Node}(hv:σ.view (λ_=>none) id=some x)(k:Nat)(h1:x.leaf=true->k=1)(h2:x.leaf=false->k=2):
  Calls prog 144 #[.pointer (some ⟨t,0,none⟩), .int .i64 id, .int .u8 k] w λe w'=>e= .returned (.tuple #[.string (Nd.str (Nd.enc x)), .int .i64 0])/\yL B t m f n r' σ w'/\Fr (λk=>k=t\/k=m) w w':=by
 obtain⟨hm,hx⟩:=wJ hv;obtain⟨D,h4,h5,h6⟩:=h.txn
 have hk:(if x.leaf then 1 else 2:Int)=(k:Int):=by
  cases hl:x.leaf with
  |true=>rw[h1 hl];rfl
  |false=>rw[h2 hl];rfl
 refine(Kz t m f n _ _ _ D id _ k _ (h.ah4 hm).wf (by rw[h5.has];exact decide_eq_true hm) (h6 id hm x hx) w h4).mono ?_;rintro e w1 ⟨rfl,hb⟩;rw[if_pos hk];exact⟨rfl,(h.up (.of_below hb) (λk (a:False)=>a.elim)).less, .of_below hb⟩
theorem yL.ah1(h:yL B t m f n r σ w){id:Int}{x:Nd.Node}(hv:σ.view (λ_=>none) id=some x)(h2:x.leaf=false):
  Calls prog 144 #[.pointer (some ⟨t,0,none⟩), .int .i64 id, .int .u8 1] w λe w'=>e= .returned (.tuple #[.string ⟨#[]⟩, .int .i64 3])/\yL B t m f n r' σ w'/\Fr (λk=>k=t\/k=m) w w':=by
 obtain⟨hm,hx⟩:=wJ hv;obtain⟨D,h4,h5,h6⟩:=h.txn;refine(Kz t m f n _ _ _ D id _ 1 _ (h.ah4 hm).wf (by rw[h5.has];exact decide_eq_true hm) (h6 id hm x hx) w h4).mono ?_;rintro e w1 ⟨rfl,hb⟩;rw[h2,if_neg ay];exact⟨rfl,(h.up (.of_below hb) (λk (a:False)=>a.elim)).less, .of_below hb⟩
theorem yL.put(h:yL B t m f n r σ w){id:Int}{x:Nd.Node}(hm:id∈σ.mine)(iE:Nd.fits x=true)(k:Nat)(h1:x.leaf=true->k=1)(h2:x.leaf=false->k=2):
  Calls prog 217 #[.pointer (some ⟨t,0,none⟩), .int .i64 id, .int .u8 k, .string (Nd.str (Nd.enc x))] w λe w'=>e= .returned (.int .i64 0)/\yL B t m f n r (σ.put id x) w'/\Fr (λk=>k=t\/k=m) w w':=by
 obtain⟨D,h4,h5,h6⟩:=h.txn
 have hk:(k:Int)=(if x.leaf then 1 else 2:Int):=by
  cases hl:x.leaf with
  |true=>rw[h1 hl];rfl
  |false=>rw[h2 hl];rfl
 have P5:=D9 h.ap
 have hs:(Nd.str (Nd.enc x)).size<=240:=by
  have hr:=Tp.eP.1 iE;have:=Nd.WU hr.1;have e:(Nd.str (Nd.enc x)).size=(Nd.enc x).length:=by simp[Nd.str,ByteArray.size]
  have:=hr.2;omega
 refine(aev t m f n _ _ _ D id k _ (h.ah4 hm).wf (by unfold maxLen;omega) (by rw[h5.has];exact decide_eq_true hm) hs w h4).mono ?_;rintro e w1 ⟨rfl,ht,hT⟩;have Rz:=h5.aqe hm (.held (content true k (Nd.str (Nd.enc x))));have Ba:=hT.tight;rw[Rz.size]at Ba;refine⟨rfl,⟨⟨h.low.1,h.low.2.1,acN h.low.2.2 ht.size⟩,h.ap,λi hi y hy=> ?_,_,Ba,Rz,λi hi y hy z=> ?_⟩,ht.fr⟩
 ·unfold Tp.dR.put at hy;simp only at hy;split at hy
  ·injection hy with hy;subst hy;exact iE
  ·exact h.fit i hi y hy
 ·unfold Tp.dR.put at hy;simp only at hy;split at hy
  ·rename_i e;injection hy with hy;subst hy e;rw[Maps.atKey_put_same h5.tidy.isMap (by trivial),hk]
  ·rename_i e;rw[Maps.atKey_put_other (λa=>by injection a with _ a;exact e a)];exact h6 i hi y hy z
theorem yL.drop(h:yL B t m f n r σ w)(id:Int)(hid:tV id):
  Calls prog 182 #[.pointer (some ⟨t,0,none⟩), .int .i64 id] w λe w'=>e= .returned (.tuple #[])/\yL B t m f n r (Tp.iK σ id) w'/\Fr (λk=>k=t\/k=m) w w':=by
 obtain⟨D,h4,h5,h6⟩:=h.txn;have P5:=D9 h.ap;refine(aa8 t m f n _ _ _ D id hid.wf ak w h4).mono ?_;rintro e w1 ⟨rfl,ht,hT⟩;have Rz:=h5.aqd h.ap.nd id;have uq:=ah3 h.ap h5 id;have Ba:=hT.tight;rw[Rz.size]at Ba
 have dK:(Tp.iK σ id).free=D8 σ.free D id:=by
  unfold Tp.iK D8;simp only[h5.has,decide_eq_true_eq]
 refine⟨rfl,⟨⟨h.low.1,h.low.2.1,acN h.low.2.2 ht.size⟩,by rw[dK];exact uq,λi hi y hy=>h.fit i (adx.1 hi).1 y hy,_,by rw[dK];exact Ba,Rz,λi hi y hy z=> ?_⟩,ht.fr⟩;have hi2:=adx.1 hi;have dL:i≠id:=by simpa using hi2.2
 unfold Hr;split
 ·rw[Maps.atKey_del_other (λa=>by injection a with _ a;exact dL a)];exact h6 i hi2.1 y hy z
 ·exact h6 i hi2.1 y hy z
theorem O6(free:List Run)(pages room:Int):nR free pages room=Tp.nR free pages room:=rfl
theorem yL.alloc(h:yL B t m f n r σ w){σ':Tp.dR}{id:Int}(ha:Tp.oN (max (n:Int) 2) σ=some (id,σ')):
  Calls prog 216 #[.pointer (some ⟨t,0,none⟩)] w λe w'=>e= .returned (.tuple #[.int .i64 id, .int .i64 0])/\tV id/\id∈σ'.mine/\yL B t m f n r σ' w'/\Fr (λk=>k=t\/k=m) w w':=by
 obtain⟨D,h4,h5,h6⟩:=h.txn;have P5:=D9 h.ap;have hp:=h.ap.pg;have hA:=Ky t m f n σ.mine.length σ.free σ.pages D P5.1 (by unfold maxLen;omega) ak w h4;rw[O6]at hA;unfold Tp.oN at ha
 cases hv:Tp.nR σ.free σ.pages (max (n:Int) 2)with
 |none=>rw[hv]at ha;cases ha
 |some o=>
  obtain⟨id',fr,p⟩:=o;rw[hv]at ha hA;simp only[ahn,agS]at ha;obtain⟨rfl,rfl⟩:=ha
  have dN:id' ∉ σ.mine/\tV id'/\Rp.Ap (max (n:Int) 2) fr [] (σ.mine++ [id']) p:=by
   unfold Tp.nR at hv
   cases hl:Rp.least σ.free with
   |some j=>
    rw[hl]at hv;injection hv with hv;injection hv with e1 hv;injection hv with e2 e3;subst e1 e2 e3;obtain⟨g1,g2,g3,g4,g5⟩:=h.ap.free hl;exact⟨g1,by unfold tV;omega,g5⟩
   |none=>
    rw[hl]at hv;simp only at hv;split at hv
    ·cases hv
    ·injection hv with hv;injection hv with e1 hv;injection hv with e2 e3;subst e1 e2 e3;obtain⟨g1,g2,g3⟩:=h.ap.fresh ak;exact⟨g1,by unfold tV;omega,g3⟩
  obtain⟨g1,g2,g3⟩:=dN;have Rz:=h5.al9 g1 (.held (content false 0 ⟨#[]⟩));refine hA.mono ?_;rintro e w1 ⟨ht,rfl,hT⟩;have Ba:=hT.tight;rw[Rz.size]at Ba;refine⟨rfl,g2,List.mem_append_right _ (acI.2 rfl),⟨⟨h.low.1,h.low.2.1,acN h.low.2.2 ht.size⟩,g3,λi hi y hy=> ?_,_,Ba,Rz,λi hi y hy z=> ?_⟩,ht.fr⟩
  ·simp only at hy;split at hy
   ·cases hy
   ·rename_i e;rcases aaf.1 hi with hi | hi
    ·exact h.fit i hi y hy
    ·exact absurd (acI.1 hi) e
  ·simp only at hy;split at hy
   ·cases hy
   ·rename_i e;rw[Maps.atKey_put_other (λa=>by injection a with _ a;exact e a)];rcases aaf.1 hi with hi | hi
    ·exact h6 i hi y hy z
    ·exact absurd (acI.1 hi) e
theorem yL.full(h:yL B t m f n r σ w)(ha:Tp.oN (max (n:Int) 2) σ=none):
  Calls prog 216 #[.pointer (some ⟨t,0,none⟩)] w λe w'=>e= .returned (.tuple #[.int .i64 0, .int .i64 2])/\yL B t m f n r σ w'/\Fr (λk=>k=t\/k=m) w w':=by
 obtain⟨D,h4,h5,h6⟩:=h.txn;have P5:=D9 h.ap;have hp:=h.ap.pg;have hA:=Ky t m f n σ.mine.length σ.free σ.pages D P5.1 (by unfold maxLen;omega) ak w h4;rw[O6]at hA;unfold Tp.oN at ha
 cases hv:Tp.nR σ.free σ.pages (max (n:Int) 2)with
 |some o=>rw[hv]at ha;cases ha
 |none=>
  rw[hv]at hA;refine hA.mono ?_;rintro e w1 ⟨ht,rfl,hT⟩;exact⟨rfl,⟨⟨h.low.1,h.low.2.1,acN h.low.2.2 ht.size⟩,h.ap,h.fit,D,hT,h5,h6⟩,ht.fr⟩
end
theorem KC{B t m:Nat}(ht:t<B)(hm:m<B)(f n:Nat):oU (λk=>k=t\/k=m) B t (max (n:Int) 2) (λ_=>none) (yL B t m f n) where
 low:=λk a=>by rcases a with rfl | rfl<;>assumption
 size:=λh=>h.low.2.2
 up:=λh hf hS=>h.up hf hS
 less:=λh _=>h.less
 ht:=λh hv=>⟨h.fit _ (wJ hv).1 _ (wJ hv).2,h.ah4 (wJ hv).1⟩
 get:=λh hv k h1 h2=>h.get hv k h1 h2
 ah1:=λh hv h2=>h.ah1 hv h2
 fresh:=λid h hid=>h.fresh id hid
 alloc:=λh ha=>h.alloc ha
 full:=λh ha=>h.full ha
 put:=λh _ hm iE k h1 h2=>h.put hm iE k h1 h2
 drop:=λid h hid=>h.drop id hid
section
variable {S:Nat->Prop}{B t:Nat}{room:Int}{disk:Tp.iW}{TM:Nat->Tp.dR->World->Prop}
structure On(S:Nat->Prop)(B t u:Nat)(TM:Nat->Tp.dR->World->Prop)(root e:Int)(r:Nat)(σ:Tp.dR)(w:World):Prop where
 tm:TM r σ w
 self:aO w u 91 (O4 t root e)
 hu:B<=u
section
variable {root e:Int}{r:Nat}{σ σ':Tp.dR}{w w':World}{u:Nat}
theorem On.below(M:oU S B t room disk TM)(h:On S B t u TM root e r σ w)(hb:Below w.heap.size w w'):On S B t u TM root e r σ w':=⟨M.below h.tm hb,h.self.below hb h.self.lt,h.hu⟩
theorem On.step(M:oU S B t room disk TM)(h:On S B t u TM root e r σ w){r':Nat}(ht:TM r' σ' w')(hf:Fr S w w'):On S B t u TM root e r' σ' w':=⟨ht,hf.blk h.self (λa=>by have:=M.low u a;have:=h.hu;omega),h.hu⟩
theorem On.own(M:oU S B t room disk TM)(h:On S B t u TM root e r σ w){g:Nat}{ty:TypeId}{cs:Array Value}(hf:Fr (λk=>k=g) w w')(hB:aO w g ty cs)(hg:B<=g)(h0:g≠u)(h1:ty≠102)(h2:ty≠106)(h3:ty≠108)(h4:ty≠120):On S B t u TM root e r σ w':=
 ⟨M.own h.tm hf hB hg h1 h2 h3 h4,hf.blk h.self (λa=>h0 a.symm),h.hu⟩
theorem On.less(M:oU S B t room disk TM)(h:On S B t u TM root e r σ w){r':Nat}(hr:r'<=r):On S B t u TM root e r' σ w:=⟨M.less h.tm hr,h.self,h.hu⟩
end
theorem oU.far(M:oU S B t room disk TM){g:Nat}(hg:B<=g):¬S g:=λa=>by have:=M.low g a;omega
def ah5(S:Nat->Prop)(B t u:Nat)(TM:Nat->Tp.dR->World->Prop)(root er:Int)(r:Nat)(σ:Tp.dR)(n:Nd.Node)(w:World)(e:Ending)(w':World):Prop:=
 ∃v,e= .returned (.tuple #[v, .int .i64 0])/\NF w.heap.size w' v n/\On S B t u TM root er r σ w'/\Fr S w w'
theorem Ea(M:oU S B t room disk TM)(u:Nat)(root er:Int)(r:Nat)(σ:Tp.dR)(id:Int)(d:Nat)(n:Nd.Node)(hv:σ.view disk id=some n)(hd:d<24)(w:World)(h:On S B t u TM root er (r+2) σ w):
  Calls prog 115 #[.pointer (some ⟨u,0,none⟩), .int .i64 id, .int .i64 (d:Nat)] w (ah5 S B t u TM root er r σ n w):=by
 obtain⟨iE,ayV⟩:=M.ht h.tm hv;have bD:=(aai w.heap.size w).alloc aK (.cells #[.bool false, .slice none 0 0, .slice none 0 0, .slice none 0 0] 188);have h1:=h.below M bD;have wY:=aO.new w 188 #[.bool false, .slice none 0 0, .slice none 0 0, .slice none 0 0];have fG:=M.size h.tm;have hd1:¬24<=(d:Int):=by omega
 have c0:(w.alloc (.cells #[.bool false, .slice none 0 0, .slice none 0 0, .slice none 0 0] 188)).cell? ⟨u,0,none⟩=some (.pointer (some ⟨t,0,none⟩)):=h1.self.cell 0;have lu:=h1.self.lt;have hun:u<w.heap.size:=h.self.lt;have vK:=ah iE;have HM:=ah M;have HV:=ah hv
 cases iD:n.leaf with
 |true=>
  have hG:=ah (λW (hW:TM (r+1+1) σ W)=>M.get hW hv 1 (λ_=>rfl) (λh=>by rw[iD]at h;cases h));have hk:Nd.kind n=1:=by unfold Nd.kind;rw[if_pos iD]
  have hD:=ah (λW=>Ho n iE W);rw[hk]at hD;generalize Nd.str (Nd.enc n)=s at*;have H1:=ah h1;have yx:=ah wY;have zZ:=ah bD;clear iD hk h1 wY bD iE hv h M;go_enter func115,ntmps115
  go_wp2_with fail
  refine(hG.out _ H1.out.tm).mono ?_;rintro e w1 ⟨rfl,pI,eH⟩;have h1:=H1.out.step HM pI eH;have wY:=eH.blk yx (HM.out.far fG);have ML:Fr S w w1:=(Fr.of_below zZ).trans eH;have gI:=eH.size;have H2:=ah h1;have yx:=ah wY;have ZQ:=ah ML;clear pI eH h1 wY ML;simp only[aad]at gI;go_wp2_with fail
  refine(hD.out _).mono ?_;rintro e w2 ⟨v,rfl,GK,bK⟩;have yj:=bK.size;have h2:=H2.out.below HM bK;have wY:=yx.out.below bK yx.out.lt;have ML:=ZQ.out.trans (.of_below bK);obtain⟨A1,k1,A2,k2,A3,k3,rfl,rr⟩:=GK;have f0:=wY.frozen 0;have f1:=wY.frozen 1;have f2:=wY.frozen 2;have f3:=wY.frozen 3;have c0:=wY.cell 0;have c1:=wY.cell 1;have c2:=wY.cell 2;have c3:=wY.cell 3;have lg:=wY.lt;have H3:=ah h2;have yx:=ah wY;have ZQ:=ah ML;have Yw:=ah rr;clear h2 wY ML rr bK;unfold dw;go_wp2
  try simp only[ac3,Exit.then]
  refine bodyPost_ret (bJ bY rfl rfl (yx.out.vI _ _ _ _) rfl) rfl ?_;have dK:∀a b c d,Fr (λk=>k=w.heap.size) w2 _:=λa b c d=>Fr.vI (w:=w2) (g:=w.heap.size) (S:=λk=>k=w.heap.size) rfl a b c d;exact⟨_,rfl,NF.lower (NF.fr ⟨A1,k1,A2,k2,A3,k3,rfl,Yw⟩ (dK _ _ _ _) (λk hk=>by omega)) ak,(H3.out.less HM (Nat.le_succ _)).own HM (dK _ _ _ _) yx fG ak ay ay ay ay,Fr.old (S':=λk=>S k\/k=w.heap.size) ((ZQ.out.more λ_=> .inl).trans ((dK _ _ _ _).more λ_=> .inr)) (λk hk=>hk.imp_right λe=>by omega)⟩
 |false=>
  have hN:=ah (λW (hW:TM (r+1+1) σ W)=>M.ah1 hW hv iD);have hG:=ah (λW (hW:TM (r+1) σ W)=>M.get hW hv 2 (λh=>by rw[iD]at h;cases h) (λ_=>rfl));have hk:Nd.kind n=2:=by unfold Nd.kind;rw[if_neg (by rw[iD];simp)]
  have hD:=ah (λW=>Ho n iE W);rw[hk]at hD;generalize Nd.str (Nd.enc n)=s at*;have H1:=ah h1;have yx:=ah wY;have zZ:=ah bD;clear iD hk h1 wY bD iE hv h M;go_enter func115,ntmps115
  go_wp2_with fail
  refine(hN.out _ H1.out.tm).mono ?_;rintro e w0 ⟨rfl,ht0,Ry⟩;have h0:=H1.out.step HM ht0 Ry;have c00:w0.cell? ⟨u,0,none⟩=some (.pointer (some ⟨t,0,none⟩)):=h0.self.cell 0;have lu0:=h0.self.lt;have H0:=ah h0;have HF0:=ah Ry;have iR:=Ry.size;simp only[aad]at iR;clear ht0 Ry h0;go_wp2_with fail
  refine(hG.out _ H0.out.tm).mono ?_;rintro e w1 ⟨rfl,pI,eH⟩;have h1:=H0.out.step HM pI eH;have wY:=(HF0.out.trans eH).blk yx (HM.out.far fG);have ML:Fr S w w1:=((Fr.of_below zZ).trans HF0).trans eH;have gI:=eH.size;have H2:=ah h1;have yx:=ah wY;have ZQ:=ah ML;clear pI eH h1 wY ML;go_wp2_with fail
  refine(hD.out _).mono ?_;rintro e w2 ⟨v,rfl,GK,bK⟩;have yj:=bK.size;have h2:=H2.out.below HM bK;have wY:=yx.out.below bK yx.out.lt;have ML:=ZQ.out.trans (.of_below bK);obtain⟨A1,k1,A2,k2,A3,k3,rfl,rr⟩:=GK;have f0:=wY.frozen 0;have f1:=wY.frozen 1;have f2:=wY.frozen 2;have f3:=wY.frozen 3;have c0:=wY.cell 0;have c1:=wY.cell 1;have c2:=wY.cell 2;have c3:=wY.cell 3;have lg:=wY.lt;have H3:=ah h2;have yx:=ah wY;have ZQ:=ah ML;have Yw:=ah rr;clear h2 wY ML rr bK;unfold dw;go_wp2
  try simp only[ac3,Exit.then]
  refine bodyPost_ret (bJ bY rfl rfl (yx.out.vI _ _ _ _) rfl) rfl ?_;have dK:∀a b c d,Fr (λk=>k=w.heap.size) w2 _:=λa b c d=>Fr.vI (w:=w2) (g:=w.heap.size) (S:=λk=>k=w.heap.size) rfl a b c d;exact⟨_,rfl,NF.lower (NF.fr ⟨A1,k1,A2,k2,A3,k3,rfl,Yw⟩ (dK _ _ _ _) (λk hk=>by omega)) ak,H3.out.own HM (dK _ _ _ _) yx fG ak ay ay ay ay,Fr.old (S':=λk=>S k\/k=w.heap.size) ((ZQ.out.more λ_=> .inl).trans ((dK _ _ _ _).more λ_=> .inr)) (λk hk=>hk.imp_right λe=>by omega)⟩
end
theorem Uj(v:Value)(n:Nd.Node)(iE:Nd.fits n=true)(w:World)(h:NS w v n)(hb:NB n):
  Calls prog 215 #[v] w λe w'=>e= .returned (.tuple #[.int .u8 (Nd.kind n:Nat), .string (Nd.str (Nd.enc n)), .int .i64 0])/\Below w.heap.size w w':=by
 have h0:=h;obtain⟨Ae,ce,Ai,ci,Ay,cy,rfl,h1,h2,h3⟩:=h
 cases iD:n.leaf with
 |true=>
  have hk:Nd.kind n=1:=by unfold Nd.kind;rw[if_pos iD]
  rw[hk];rw[iD]at h0;exact Qo Ae Ai Ay ce ci cy n iD iE w h0 h1 hb
 |false=>
  have hk:Nd.kind n=2:=by unfold Nd.kind;rw[if_neg (by rw[iD];simp)]
  rw[hk];rw[iD]at h0;exact Nu Ae Ai Ay ce ci cy n iD iE w h0 h2 h3 hb
section
variable {S:Nat->Prop}{B t:Nat}{room:Int}{disk:Tp.iW}{TM:Nat->Tp.dR->World->Prop}
def Zc(S:Nat->Prop)(B t u:Nat)(TM:Nat->Tp.dR->World->Prop)(root er:Int)(r:Nat)(o:Except Int Int × Tp.dR)(w:World)(e:Ending)(w':World):Prop:=
 ∃p x:Int,e= .returned (.tuple #[.int .i64 p, .int .i64 x])/\((o.1= .ok p/\x=0/\tV p)\/(o.1= .error 2/\x=2))/\On S B t u TM root er r o.2 w'/\Fr S w w'
theorem Uk(M:oU S B t room disk TM)(u:Nat)(root er:Int)(r:Nat)(σ:Tp.dR)(id:Int)(hid:tV id)(v:Value)(n:Nd.Node)(iE:Nd.fits n=true)(w:World)(BQ:NS w v n)(h:On S B t u TM root er r σ w):
  Calls prog 185 #[.pointer (some ⟨u,0,none⟩), .int .i64 id,v] w (Zc S B t u TM root er r (Tp.ku room σ id n) w):=by
 have xq:=rV iE;obtain⟨Ae,ce,Ai,ci,Ay,cy,rfl,q1,q2,q3⟩:=BQ;unfold dw;have bD:=(aai w.heap.size w).alloc aK (.cells #[.bool n.leaf, .slice Ae n.ents.length ce, .slice Ai n.kids.length ci, .slice Ay n.keys.length cy] 188);have hE:=ah (λW (jU:Below w.heap.size w W)=>Uj (.agg #[.bool n.leaf, .slice Ae n.ents.length ce, .slice Ai n.kids.length ci, .slice Ay n.keys.length cy]) n iE W ⟨Ae,ce,Ai,ci,Ay,cy,rfl,q1.up jU,q2.up jU,q3.up jU⟩ xq);have wY:=aO.new w 188 #[.bool n.leaf, .slice Ae n.ents.length ce, .slice Ai n.kids.length ci, .slice Ay n.keys.length cy];have lg:=wY.lt;have g0:=wY.cell 0;have g1:=wY.cell 1;have g2:=wY.cell 2;have g3:=wY.cell 3;have fG:=M.size h.tm;have HM:=ah M;have aqf:n.leaf=true->Nd.kind n=1:=λh=>by unfold Nd.kind;rw[if_pos h]
 have aqg:n.leaf=false->Nd.kind n=2:=λh=>by unfold Nd.kind;rw[if_neg (by rw[h];simp)]
 have Xy:=ah (λσ id W (hT:TM r σ W) (h1:tV id) (h2:id∈σ.mine)=>M.put hT h1 h2 iE (Nd.kind n) aqf aqg);generalize Nd.str (Nd.enc n)=s at*;generalize Nd.kind n=kd at*;have H1:=ah (h.below M bD);have zZ:=ah bD;have vK:=ah iE;obtain⟨o,ho⟩:=aJ (Tp.ku room σ id n);rw[<-ho];have HO:=ah ho;have HFR:=ah (λr σ W (hT:TM r σ W)=>M.fresh id hT hid);have ZM:=ah hid;clear bD wY aqf aqg xq iE h M ho hid q1 q2 q3;go_enter func185,ntmps185
 go_wp2_with fail
 refine(hE.out _ zZ).mono ?_;rintro e w1 ⟨rfl,bK⟩;have h2:=H1.out.below HM bK;have c0:w1.cell? ⟨u,0,none⟩=some (.pointer (some ⟨t,0,none⟩)):=h2.self.cell 0;have lu:=h2.self.lt;have ML:Fr S w w1:=(Fr.of_below zZ).trans (.of_below bK);have H2:=ah h2;have HF:=ah ML;clear h2 ML bK g0 g1 g2 g3 lg;go_wp2_with fail
 refine(HFR.out _ _ _ H2.out.tm).mono ?_;rintro e w2 ⟨rfl,AZ,yK⟩;have h3:=H2.out.step HM AZ yK;have c0:w2.cell? ⟨u,0,none⟩=some (.pointer (some ⟨t,0,none⟩)):=h3.self.cell 0;have lu:=h3.self.lt;have ML:Fr S w w2:=HF.out.trans yK;have H3:=ah h3;have sD:=ah ML;clear h3 ML AZ yK;by_cases hm:id∈σ.mine
 ·have hdm:decide (id∈σ.mine)=true:=decide_eq_true hm;rw[hdm];have HP:=ah (Xy.out σ id w2 H3.out.tm ZM hm);have kW:o=(.ok id,σ.put id n):=by rw[HO.out];unfold Tp.ku;rw[if_neg (by rw[vK.out];simp),if_pos hm]
  have pJ:=ah kW;clear hm hdm kW;go_wp2_with fail
  refine HP.out.mono ?_;rintro e w3 ⟨rfl,yQ,nP⟩;have fE:=ah (show On S B t u TM root er r o.2 w3/\Fr S w w3 from⟨by rw[pJ.out];exact H3.out.step HM yQ nP,sD.out.trans nP⟩);clear yQ nP;go_wp2;go_ret2;exact⟨id,0,rfl, .inl ⟨by rw[pJ.out],rfl,ZM⟩,fE⟩
 ·have hdm:decide (id∈σ.mine)=false:=decide_eq_false hm;rw[hdm]
  cases ha:Tp.oN room σ with
  |none=>
   have hA:=ah (HM.out.full H3.out.tm ha);have kW:o=(.error 2,σ):=by rw[HO.out];unfold Tp.ku;rw[if_neg (by rw[vK.out];simp),if_neg hm,ha]
   have pJ:=ah kW;clear hm hdm ha kW;go_wp2_with fail
   refine hA.out.mono ?_;rintro e w3 ⟨rfl,yQ,nP⟩;have fE:=ah (show On S B t u TM root er r o.2 w3/\Fr S w w3 from⟨by rw[pJ.out];exact H3.out.step HM yQ nP,sD.out.trans nP⟩);clear yQ nP;go_wp2;go_ret2;exact⟨0,2,rfl, .inr ⟨by rw[pJ.out],rfl⟩,fE⟩
  |some p=>
   obtain⟨id',σ'⟩:=p;have hA:=ah (HM.out.alloc H3.out.tm ha);have kW:o=(.ok id',σ'.put id' n):=by rw[HO.out];unfold Tp.ku;rw[if_neg (by rw[vK.out];simp),if_neg hm,ha]
   have pJ:=ah kW;clear hm hdm ha kW;go_wp2_with fail
   refine hA.out.mono ?_;rintro e w3 ⟨rfl,ama,jk,yQ,nP⟩;have h4:=H3.out.step HM yQ nP;have c0:w3.cell? ⟨u,0,none⟩=some (.pointer (some ⟨t,0,none⟩)):=h4.self.cell 0;have lu:=h4.self.lt;have HP:=ah (Xy.out σ' id' w3 yQ ama jk);have H4:=ah h4;have pK:=ah (sD.out.trans nP);have avy:=ah ama;clear h4 yQ nP jk ama;go_wp2_with fail
   refine HP.out.mono ?_;rintro e w4 ⟨rfl,vw,sW⟩;have fE:=ah (show On S B t u TM root er r o.2 w4/\Fr S w w4 from⟨by rw[pJ.out];exact H4.out.step HM vw sW,pK.out.trans sW⟩);clear vw sW;go_wp2;go_ret2;exact⟨id',0,rfl, .inl ⟨by rw[pJ.out],rfl,avy⟩,fE⟩
end
end Go.Proofs.YtadnmegdbllaoaaGreatDoor
namespace Tp
open Nd En
def cnt(n:Node):Nat:=n.ents.length+n.kids.length
structure PB(p:Part)(L:Nat):Prop where
 len:p.1.length<=L
 keys:p.2.length=p.1.length-1
 ks:∀k∈p.2,k.size<=16
theorem PB.nil(L:Nat):PB ([], []) L:=⟨ac4 _,rfl,λ_ h=>by cases h⟩
theorem PB.one(i:Int){L:Nat}(h:1<=L):PB ([i], []) L:=⟨h,rfl,λ_ h=>by cases h⟩
theorem PB.mono{p:Part}{L L':Nat}(h:PB p L)(hl:L<=L'):PB p L':=⟨acN h.len hl,h.keys,h.ks⟩
theorem PB.join{p q:Part}{L L':Nat}(h:PB p L)(h':PB q L')(k:Str)(hk:k.size<=16)(hp:0<p.1.length)(hq:0<q.1.length):PB (p.1++q.1,p.2++ [k]++q.2) (L+L'):=by
 refine⟨by rw[aag];have:=h.len;have:=h'.len;omega, ?_,λx hx=> ?_⟩
 ·have:=h.keys;have:=h'.keys;simp only[aag,acH,adh];omega
 ·rcases aaf.1 hx with hx | hx
  ·rcases aaf.1 hx with hx | hx
   ·exact h.ks x hx
   ·rw[acI]at hx;subst hx;exact hk
  ·exact h'.ks x hx
theorem Ul{l:List Str}(h:∀k∈l,k.size<=16):bH l<=21*l.length:=by
 induction l with
 |nil=>simp[bH]
 |cons x l ih=>
  rw[jQ,acH];have:=ih λy hy=>h y (acF _ hy);have:=h x aae;unfold ksz;omega
theorem zD{n:Node}{q:Node × Str × Node}(h:Nd.split n=some q):Nd.right n=true/\¬ (n.ents.length<2/\n.kids.length<2):=by
 unfold Nd.split at h;by_cases hc:Nd.right n=false\/(n.ents.length<2/\n.kids.length<2)
 ·rw[if_pos hc]at h;cases h
 ·exact⟨by cases hr:Nd.right n with
   |true=>rfl
   |false=>exact absurd (.inl hr) hc,λh2=>hc (.inr h2)⟩
theorem zF{n a b:Node}{k:Str}(h:Nd.split n=some (a,k,b)):cnt a+cnt b=cnt n/\0<cnt a/\0<cnt b/\0<k.size/\k.size<=16/\a.ents.Sublist n.ents/\b.ents.Sublist n.ents/\a.keys.Sublist n.keys/\b.keys.Sublist n.keys:=by
 obtain⟨hr,h2⟩:=zD h;unfold Nd.split at h
 rw[if_neg (by rw[hr];rintro(h | h); · cases h
               ·exact h2 h)]at h
 obtain⟨leaf,ents,kids,keys⟩:=n
 cases leaf with
 |true=>
  obtain⟨r1,rfl,rfl⟩:=jm.1 hr;simp only[if_true]at h;have hm:=((En.fH ents).1 r1).1;simp only[adh]at h2;have hl:=mD ents;obtain⟨j,g1,g2,g3,_,_⟩:=AA (bP ents) ents.length (by omega) ents 0 0 (by omega) (λe=>by subst e;simp at h2) (.inr (by omega)) (λh=>absurd h (by omega)) (λ_=>rfl) (λx hx=>Jg (hm x hx));have hh:half ents=0+j:=g2;rw[hh]at h;have hj:0+j<ents.length:=by omega
  rw[acU hj]at h;simp only[ahn,agS]at h;obtain⟨rfl,rfl,rfl⟩:=h;have hmk:=DV (hm _ (acT hj));have Vz:=hm _ (acT hj);unfold may at Vz;simp only[acJ,decide_eq_true_eq]at Vz;refine⟨?_, ?_, ?_,hmk.1,Vz.1.2,ajW _ _,aj0 _ _,aha _,aha _⟩
  ·unfold cnt bU;simp only[acR,acP,adh];omega
  ·unfold cnt bU;simp only[acR,adh];omega
  ·unfold cnt bU;simp only[acP,adh];omega
 |false=>
  obtain⟨rfl,r2,r3,r4⟩:=dV.1 hr;simp only[Bool.false_eq_true,if_false]at h;simp only[adh]at h2;have hj:kids.length / 2-1<keys.length:=by omega
  rw[acU hj]at h;simp only[ahn,agS]at h;obtain⟨rfl,rfl,rfl⟩:=h;have Vz:=((oK keys).1 r4).1 _ (acT hj);have hmk:=DV (x:=(keys[kids.length / 2-1],⟨#[]⟩)) Vz;unfold may at Vz;simp only[acJ,decide_eq_true_eq]at Vz;refine⟨?_, ?_, ?_,hmk.1,Vz.1.2,aha _,aha _,ajW _ _,aj0 _ _⟩
  ·unfold cnt aN;simp only[acR,acP,adh];omega
  ·unfold cnt aN;simp only[acR,adh];omega
  ·unfold cnt aN;simp only[acP,adh];omega
theorem O7{a l:List bT}(h:a.Sublist l):bP a<=bP l:=by
 induction h with
 |slnil=>exact Nat.le_refl _
 |cons x _ ih=>rw[gW];omega
 |cons_cons x _ ih=>rw[gW,gW];omega
theorem FU{a l:List Str}(h:a.Sublist l):bH a<=bH l:=by
 induction h with
 |slnil=>exact Nat.le_refl _
 |cons x _ ih=>rw[jQ];omega
 |cons_cons x _ ih=>rw[jQ,jQ];omega
theorem Dc{room:Int} :∀ (f:Nat) (σ:dR) (id:Int) (n:Node) (p:Part),0<cnt n->(cO room f σ id n).1= .ok p->0<p.1.length
 |0,_,_,_,_,_,h=>by simp[cO]at h
 |f+1,σ,id,n,p,hn,h=>by
  unfold cO at h;rw[if_neg (by unfold cnt at hn;omega)]at h
  cases hc:cut n with
  |none=>
   rw[hc]at h;simp only at h
   cases hs:ku room σ id n with
   |mk q σ1=>
    rw[hs]at h
    cases q with
    |error e=>simp at h
    |ok pg=>simp only[ajN]at h;subst h;simp
  |some q=>
   obtain⟨a,k,b⟩:=q;rw[hc]at h;simp only at h
   have yT:Nd.split n=some (a,k,b):=by
    unfold cut at hc;split at hc
    ·exact hc
    ·cases hc
   obtain⟨_,ha,_⟩:=zF yT
   cases hs:cO room f σ id a with
   |mk q σ1=>
    rw[hs]at h
    cases q with
    |error e=>simp at h
    |ok one=>
     simp only at h;have hp:=Dc f σ id a one ha (by rw[hs])
     cases mW:cO room f σ1 0 b with
     |mk q2 σ2=>
      rw[mW]at h
      cases q2 with
      |error e=>simp at h
      |ok two=>simp only[ajN]at h;subst h;rw[aag];omega
def FV(one:Part)(key:Str)(q:Except Int Part × dR):Except Int Part × dR:=match q with
 |(.error e,σ2)=>(.error e,σ2)
 |(.ok two,σ2)=>(.ok (one.1++two.1,one.2++ [key]++two.2),σ2)
def QB(room:Int)(f:Nat)(b:Node)(key:Str)(q:Except Int Part × dR):Except Int Part × dR:=match q with
 |(.error e,σ1)=>(.error e,σ1)
 |(.ok one,σ1)=>FV one key (cO room f σ1 0 b)
theorem KD{one:Part}{key:Str}{q:Except Int Part × dR}{e:Int}(h:q.1= .error e):FV one key q=(.error e,q.2):=by
 obtain⟨x,σ⟩:=q;simp only at h;subst h;rfl
theorem abb{one two:Part}{key:Str}{q:Except Int Part × dR}(h:q.1= .ok two):FV one key q=(.ok (one.1++two.1,one.2++ [key]++two.2),q.2):=by
 obtain⟨x,σ⟩:=q;simp only at h;subst h;rfl
theorem KE{room:Int}{f:Nat}{b:Node}{key:Str}{q:Except Int Part × dR}{e:Int}(h:q.1= .error e):QB room f b key q=(.error e,q.2):=by
 obtain⟨x,σ⟩:=q;simp only at h;subst h;rfl
theorem abd{room:Int}{f:Nat}{b:Node}{key:Str}{q:Except Int Part × dR}{one:Part}(h:q.1= .ok one):QB room f b key q=FV one key (cO room f q.2 0 b):=by
 obtain⟨x,σ⟩:=q;simp only at h;subst h;rfl
theorem Xz{room:Int}{f:Nat}{σ:dR}{id:Int}{n a b:Node}{key:Str}(h0:¬n.ents.length+n.kids.length=0)(hc:cut n=some (a,key,b)):cO room (f+1) σ id n=QB room f b key (cO room f σ id a):=by
 rw[cO,if_neg h0,hc];simp only
 cases cO room f σ id a with
 |mk q σ1=>
  cases q with
  |error e=>rfl
  |ok one=>
   simp only;show _=FV one key (cO room f σ1 0 b)
   cases cO room f σ1 0 b with
   |mk q2 σ2=>cases q2<;>rfl
def QC(q:Except Int Int × dR):Except Int Part × dR:=match q with
 |(.error e,σ1)=>(.error e,σ1)
 |(.ok p,σ1)=>(.ok ([p], []),σ1)
theorem qy{q:Except Int Int × dR}{e:Int}(h:q.1= .error e):QC q=(.error e,q.2):=by
 obtain⟨x,σ⟩:=q;simp only at h;subst h;rfl
theorem sN{q:Except Int Int × dR}{i:Int}(h:q.1= .ok i):QC q=(.ok ([i], []),q.2):=by
 obtain⟨x,σ⟩:=q;simp only at h;subst h;rfl
theorem Eb{room:Int}{f:Nat}{σ:dR}{id:Int}{n:Node}(h0:¬n.ents.length+n.kids.length=0)(hc:cut n=none):cO room (f+1) σ id n=QC (ku room σ id n):=by
 rw[cO,if_neg h0,hc];simp only
 cases ku room σ id n with
 |mk q σ1=>cases q<;>rfl
theorem Um{n:Node}{q:Node × Str × Node}(h:cut n=some q):240<size n/\Nd.split n=some q:=by
 unfold cut at h;split at h
 ·exact⟨by assumption,h⟩
 ·cases h
theorem Un{room:Int}{f:Nat}{σ:dR}{id:Int}{n:Node}(h0:¬n.ents.length+n.kids.length=0)(h3:(cO room (f+1) σ id n).1≠ .error 3):Nd.right n=true:=by
 cases hc:cut n with
 |some q=>exact(zD (Um hc).2).1
 |none=>
  rw[Eb h0 hc]at h3
  cases hf:Nd.fits n with
  |true=>exact(eP.1 hf).1
  |false=>
   unfold ku at h3;rw[if_pos hf]at h3;exact absurd rfl h3
theorem amb{k:Str}(h:0<k.size):(k.toList==(⟨#[]⟩:ByteArray).toList)=false/\k.toList.isEmpty=false/\k.toList≠ []:=by
 have hs:k.toList≠ []:=λhe=>by
  have e:k.toList=k.data.toList:=akV k;rw[e]at he;have:k.size=0:=by rw[<-ByteArray.size_data, <-Array.length_toList,he];rfl
  omega
 have e0:(⟨#[]⟩:ByteArray).toList= []:=by rw[akV]
 exact⟨by rw[e0,beq_eq_false_iff_ne];exact hs,by cases hk:k.toList with
  |nil=>exact absurd hk hs
  |cons a b=>rfl,hs⟩
end Tp
namespace Go.Proofs.YtadnmegdbllaoaaGreatDoor
open Go.RowKit Go.Shelf Tryz
theorem iw:kG 240 2:=⟨_,underlying240,by kernel_rfl⟩
theorem aO.jg{w:World}{g:Nat}{ty:TypeId}{a b:Value}(h:aO w g ty #[a,b])(a' b':Value):aO ((w.setCell ⟨g,0,none⟩ a').setCell ⟨g,1,none⟩ b') g ty #[a',b']:=by
 have:=(h.dO 0 a').dO 1 b';simpa using this
theorem Fr.jg{w:World}{g:Nat}(a' b':Value):Fr (λk=>k=g) w ((w.setCell ⟨g,0,none⟩ a').setCell ⟨g,1,none⟩ b'):=(Fr.dO (S:=λk=>k=g) rfl _).trans (Fr.dO (S:=λk=>k=g) rfl _)
theorem Uo{n a b:Nd.Node}{k:ByteArray}(h:Nd.split n=some (a,k,b))(hn:NB n):NB a/\NB b:=by
 obtain⟨h1,_,_,_,_,s1,s2,s3,s4⟩:=Tp.zF h;have:=hn.e;have:=hn.i;have:=hn.k;have:=hn.es;have:=hn.ks;unfold Tp.cnt at h1;have:=s1.length_le;have:=s2.length_le;have:=s3.length_le;have:=s4.length_le;have:=Tp.O7 s1;have:=Tp.O7 s2;have:=Tp.FU s3;have:=Tp.FU s4
 have vg:a.kids.length<=n.kids.length/\b.kids.length<=n.kids.length:=by
  obtain⟨hr,h2⟩:=Tp.zD h;unfold Nd.split at h
  rw[if_neg (by rw[hr];rintro(h | h); · cases h
                ·exact h2 h)]at h
  split at h
  ·split at h
   ·cases h
   ·simp only[ahn,agS]at h;obtain⟨rfl,_,rfl⟩:=h;exact⟨ac4 _,ac4 _⟩
  ·split at h
   ·cases h
   ·simp only[ahn,agS]at h;obtain⟨rfl,_,rfl⟩:=h;exact⟨by simp[Nd.aN,acR];omega,by simp[Nd.aN]⟩
 exact⟨⟨by omega,by omega,by omega,by omega,by omega⟩,⟨by omega,by omega,by omega,by omega,by omega⟩⟩
section
variable {S:Nat->Prop}{B t:Nat}{room:Int}{disk:Tp.iW}{TM:Nat->Tp.dR->World->Prop}
def aez(S:Nat->Prop)(B t u:Nat)(TM:Nat->Tp.dR->World->Prop)(root er:Int)(r:Nat)(o:Except Int Tp.Part × Tp.dR)(L:Nat)(w:World)(e:Ending)(w':World):Prop:=
 ∃v p,∃x:Int,e= .returned (.tuple #[v, .int .i64 x])/\PF w.heap.size w' v p/\((o.1= .ok p/\x=0/\Tp.PB p L)\/(o.1= .error 2/\x=2))/\On S B t u TM root er r o.2 w'/\Fr S w w'
theorem nT(M:oU S B t room disk TM){u r:Nat}{root er x:Int}{o:Except Int Tp.Part × Tp.dR}{L:Nat}{p:Tp.Part}{w w4 wf:World}{g:Nat}{cs:Array Value}{v:Value}(hF:Fr S w w4)(xw:On S B t u TM root er r o.2 w4)(hB:aO w4 g 240 cs)(hg:w.heap.size<=g)(fG:B<=w.heap.size)(hgu:g≠u)(dK:Fr (λk=>k=g) w4 wf)(hp:PF w.heap.size wf v p)(hr:(o.1= .ok p/\x=0/\Tp.PB p L)\/(o.1= .error 2/\x=2)):aez S B t u TM root er r o L w (.returned (.tuple #[v, .int .i64 x])) wf:=
 ⟨v,p,x,rfl,hp,hr,xw.own M dK hB ak hgu ay ay ay ay,Fr.old (S':=λk=>S k\/k=g) ((hF.more λ_=> .inl).trans (dK.more λ_=> .inr)) (λk hk=>hk.imp_right λe=>by omega)⟩
theorem BM{lo:Nat}{w:World}{v1 v2:Value}{p:Tp.Part}(h1:LO fZ 3 w lo v1 p.1)(h2:LO keyE 9 w lo v2 p.2):PF lo w (.agg #[v1,v2]) p:=by
 obtain⟨A,c,rfl⟩:=h1.form;obtain⟨A',c',rfl⟩:=h2.form;exact⟨A,c,A',c',rfl,h1,h2⟩
theorem On.row(M:oU S B t room disk TM){u r:Nat}{root er:Int}{σ:Tp.dR}{w w':World}{b e s n:Nat}{v:Value}{xs:List Value}(h:On S B t u TM root er r σ w)(ho:w.ownsRow b e s v n xs)(hb:B<=b)(h0:e≠91)(h1:e≠102)(h2:e≠106)(h3:e≠108)(h4:e≠120)(hg:w.grownBy w' v.ownBlock):On S B t u TM root er r σ w':=by
 refine⟨M.up h.tm (Fr.iO hg) (λk hk=> ?_),h.self.grown hg (λe=>bM ho h.self h0 e.symm),h.hu⟩;obtain⟨cs,yT⟩:=I9 ho hk;refine⟨acN hb (ada ho k hk).1,λo h=> ?_⟩;have e:o= .cells cs e:=by have:=h.symm.trans yT;injection this
 subst e;exact⟨λcs' e=>by injection e with _ e;exact h1 e,λcs' e=>by injection e with _ e;exact h2 e,λcs' e=>by injection e with _ e;exact h3 e,λcs' e=>by injection e with _ e;exact h4 e,λ_ _ e=>by cases e⟩
theorem LO.aeA{α:Type}{E:Enc α}{ty:TypeId}{w:World}{base s n:Nat}{v:Value}{a b:List α}{xs:List Value}(hs:E.size=s)(hn:n=(a++b).length)(hx:xs=E.cells (a++b))(h:w.ownsRow base ty s v n xs):LO E ty w base v (a++b):=by
 subst hs hn hx;exact h
theorem LO.aeB{α:Type}{E:Enc α}{ty:TypeId}{w w':World}{base b e s n:Nat}{v v2:Value}{l:List α}{xs:List Value}(h:LO E ty w base v l)(ho:w.ownsRow b e s v2 n xs)(dL:ty≠e)(hg:w.grownBy w' v2.ownBlock):LO E ty w' base v l:=adC h ho dL hg
theorem qA{w:World}{g:Nat}{ty:TypeId}{cs:Array Value}(h:w.heap.size=g):aO (w.alloc (.cells cs ty)) g ty cs:=by subst h;exact aO.new _ _ _
theorem KF(lo:Nat)(w:World):PF lo w (.agg #[.slice none 0 0, .slice none 0 0]) ([], []):=⟨none,0,none,0,rfl,LO.nil_ _ _,LO.nil_ _ _⟩
theorem sO(M:oU S B t room disk TM)(u:Nat)(root er:Int)(r:Nat):∀ (f:Nat) (σ:Tp.dR) (id:Int) (_:tV id) (v:Value) (n:Nd.Node) (_:NB n) (_:(Tp.cO room f σ id n).1≠ .error 3) (w:World) (_:NS w v n) (_:On S B t u TM root er r σ w),
  Calls prog 162 #[.pointer (some ⟨u,0,none⟩), .int .i64 id,v] w (aez S B t u TM root er r (Tp.cO room f σ id n) (Tp.cnt n) w)
 |0,_,_,_,_,_,_,h3,_,_,_=>absurd rfl h3
 |f+1,σ,id,hid,v,n,xq,h3,w,BQ,h=>by
  have IH:=ah (sO M u root er r f);obtain⟨Ae,ce,Ai,ci,Ay,cy,rfl,q1,q2,q3⟩:=BQ;unfold dw;obtain⟨o,ho⟩:=aJ (Tp.cO room (f+1) σ id n);rw[<-ho]at h3 ⊢;have bD:=(aai w.heap.size w).alloc aK (.cells #[.bool n.leaf, .slice Ae n.ents.length ce, .slice Ai n.kids.length ci, .slice Ay n.keys.length cy] 188);have bK:=bD.alloc bD.size (.cells #[.slice none 0 0, .slice none 0 0] 240);have iM:=(aO.new w 188 #[.bool n.leaf, .slice Ae n.ents.length ce, .slice Ai n.kids.length ci, .slice Ay n.keys.length cy]).alloc (.cells #[.slice none 0 0, .slice none 0 0] 240);have uI:=aO.new (w.alloc (.cells #[.bool n.leaf, .slice Ae n.ents.length ce, .slice Ai n.kids.length ci, .slice Ay n.keys.length cy] 188)) 240 #[.slice none 0 0, .slice none 0 0];simp only[aad]at uI;have amc:∀W,Below w.heap.size w W->NS W (.agg #[.bool n.leaf, .slice Ae n.ents.length ce, .slice Ai n.kids.length ci, .slice Ay n.keys.length cy]) n:=λW jU=>⟨Ae,ce,Ai,ci,Ay,cy,rfl,q1.up jU,q2.up jU,q3.up jU⟩;have hEM:=ah (λW jU=>WX _ n W (amc W jU) xq);have fG:=M.size h.tm;have hun:u<w.heap.size:=h.self.lt;have g0:=iM.cell 0;have g1:=iM.cell 1;have g2:=iM.cell 2;have g3:=iM.cell 3;have ln:=iM.lt;have H2:=ah ((h.below M bD).below M (Below.alloc aU aK (.cells #[.slice none 0 0, .slice none 0 0] 240)));have qj:=ah bK;have Og:=ah iM;have HBp:=ah uI;have HM:=ah M;have HNS:=ah amc;have HNB:=ah xq;have ZM:=ah hid;have HO:=ah ho;have H3:=ah h3;clear h bD bK iM uI amc xq hid ho h3 q1 q2 q3 M;by_cases h0:n.ents.length+n.kids.length=0
  ·have hde:decide (n.ents.length+n.kids.length=0)=true:=decide_eq_true h0;rw[hde]at hEM;have kW:o=(.ok ([], []),Tp.iK σ id):=by rw[HO.out];unfold Tp.cO;rw[if_pos h0]
   have pJ:=ah kW;have HDR:=ah (λσ W (hT:TM r σ W)=>HM.out.drop id hT ZM);clear hde kW h0;go_enter func162,ntmps162
   go_wp2_with fail
   refine(hEM.out _ qj).mono ?_;rintro e w1 ⟨rfl,dJ⟩;have h3:=H2.out.below HM dJ;have c0:w1.cell? ⟨u,0,none⟩=some (.pointer (some ⟨t,0,none⟩)):=h3.self.cell 0;have lu:=h3.self.lt;have HF:=ah ((Fr.of_below qj).trans (.of_below dJ):Fr S w w1);have HBp:=ah (HBp.out.below dJ HBp.out.lt);have H3':=ah h3;clear h3 dJ g0 g1 g2 g3 ln;go_wp2_with fail
   refine(HDR.out _ _ H3'.out.tm).mono ?_;rintro e w2 ⟨rfl,AZ,yK⟩;have h4:=H3'.out.step HM AZ yK;have uI:=yK.blk HBp (HM.out.far ak);have d0:=uI.cell 0;have d1:=uI.cell 1;have f0:=uI.frozen 0;have f1:=uI.frozen 1;have lp:=uI.lt;have H4:=ah h4;have kL:=ah (HF.out.trans yK);have ZR:=ah uI;clear h4 AZ yK uI;go_wp2
   try simp only[ac3,Exit.then]
   refine bodyPost_ret (bJ iw rfl rfl (ZR.out.jg _ _) rfl) rfl ?_;exact nT HM kL (by rw[pJ.out];exact H4) ZR ak fG ak (Fr.jg _ _) (KF _ _) (.inl ⟨by rw[pJ.out],rfl,Tp.PB.nil _⟩)
  ·have hde:decide (n.ents.length+n.kids.length=0)=false:=decide_eq_false h0;rw[hde]at hEM;have gy:Nd.right n=true:=Tp.Un h0 (by rw[<-HO.out];exact H3);have HSP:=ah (λW jU=>aaQ _ n gy W (HNS.out W jU) HNB);have HSZ:=ah (λW jU=>FH _ n W (HNS.out W jU) HNB);have HRT:=ah gy;have HN0:=ah h0;clear hde gy h0;go_enter func162,ntmps162
   go_wp2_with fail
   refine(hEM.out _ qj).mono ?_;rintro e w1 ⟨rfl,dJ⟩;have aqh:Below w.heap.size w w1:=qj.out.trans (dJ.mono qj.out.size);have iM:=Og.out.below dJ Og.out.lt;have g0:=iM.cell 0;have g1:=iM.cell 1;have g2:=iM.cell 2;have g3:=iM.cell 3;have ln:=iM.lt;have vY:=ah aqh;have XA:=ah iM;have NJ:=ah (HBp.out.below dJ HBp.out.lt);have H3':=ah (H2.out.below HM dJ);clear dJ aqh iM;go_wp2_with fail
   refine(HSP.out _ vY).mono ?_;rintro e w2 ⟨va,vb,key,a,b,rfl,na,nb,iC,NZ⟩;have aqi:Below w.heap.size w w2:=vY.out.trans (iC.mono vY.out.size);have iM:=XA.out.below iC XA.out.lt;have g0:=iM.cell 0;have g1:=iM.cell 1;have g2:=iM.cell 2;have g3:=iM.cell 3;have ln:=iM.lt;obtain⟨A1,k1,A2,k2,A3,k3,rfl,ra⟩:=na;obtain⟨B1,j1,B2,j2,B3,j3,rfl,rb⟩:=nb;have oD:=ah aqi;have aqj:=ah iM;have Ec:=ah (NJ.out.below iC NJ.out.lt);have H4:=ah (H3'.out.below HM iC);have Dz:=ah ra;have HRB:=ah rb;have aqk:=ah NZ;clear iC aqi iM ra rb NZ;unfold dw;have ER:=(aai w2.heap.size w2).alloc aK (.cells #[.bool a.leaf, .slice A1 a.ents.length k1, .slice A2 a.kids.length k2, .slice A3 a.keys.length k3] 188);have jB:=ER.alloc ER.size (.cells #[.bool b.leaf, .slice B1 b.ents.length j1, .slice B2 b.kids.length j2, .slice B3 b.keys.length j3] 188);have MI:=(aO.new w2 188 #[.bool a.leaf, .slice A1 a.ents.length k1, .slice A2 a.kids.length k2, .slice A3 a.keys.length k3]).alloc (.cells #[.bool b.leaf, .slice B1 b.ents.length j1, .slice B2 b.kids.length j2, .slice B3 b.keys.length j3] 188);have Dv:=aO.new (w2.alloc (.cells #[.bool a.leaf, .slice A1 a.ents.length k1, .slice A2 a.kids.length k2, .slice A3 a.keys.length k3] 188)) 188 #[.bool b.leaf, .slice B1 b.ents.length j1, .slice B2 b.kids.length j2, .slice B3 b.keys.length j3];simp only[aad]at Dv;have yj:((w2.alloc (.cells #[.bool a.leaf, .slice A1 a.ents.length k1, .slice A2 a.kids.length k2, .slice A3 a.keys.length k3] 188)).alloc (.cells #[.bool b.leaf, .slice B1 b.ents.length j1, .slice B2 b.kids.length j2, .slice B3 b.keys.length j3] 188)).heap.size=w2.heap.size+2:=by simp
   have yX:=ah jB;have HBa:=ah MI;have HBb:=ah Dv;have aBO:w.heap.size+2<=w2.heap.size:=by have:=Ec.out.lt;omega
   clear ER jB MI Dv;go_wp2_with fail
   generalize (w2.alloc (.cells #[.bool a.leaf, .slice A1 a.ents.length k1, .slice A2 a.kids.length k2, .slice A3 a.keys.length k3] 188)).alloc (.cells #[.bool b.leaf, .slice B1 b.ents.length j1, .slice B2 b.kids.length j2, .slice B3 b.keys.length j3] 188)=w2' at*;refine(HSZ.out _ (oD.out.trans (yX.out.mono oD.out.size))).mono ?_;rintro e w3 ⟨rfl,lZ⟩;have IZ:=lZ.size;have h24:Below w2.heap.size w2 w3:=yX.out.trans (lZ.mono ak);have EU:=ah (oD.out.trans (h24.mono oD.out.size));have NK:=ah (aqj.out.below h24 aqj.out.lt);have XB:=ah (Ec.out.below h24 Ec.out.lt);have aeC:=ah (HBa.out.below lZ HBa.out.lt);have avz:=ah (HBb.out.below lZ HBb.out.lt);have H5:=ah (H4.out.below HM h24);have HNA:=ah (NF.below (lo:=w1.heap.size) (v:= .agg #[.bool a.leaf, .slice A1 a.ents.length k1, .slice A2 a.kids.length k2, .slice A3 a.keys.length k3]) ⟨A1,k1,A2,k2,A3,k3,rfl,Dz⟩ h24);have avA:=ah (NF.below (lo:=w1.heap.size) (v:= .agg #[.bool b.leaf, .slice B1 b.ents.length j1, .slice B2 b.kids.length j2, .slice B3 b.keys.length j3]) ⟨B1,j1,B2,j2,B3,j3,rfl,HRB⟩ h24);have aBP:w.heap.size<=w1.heap.size:=vY.out.size;clear lZ h24 yj;by_cases hcut:∃q,Tp.cut n=some q
   ·obtain⟨q,hq⟩:=hcut;have rE:=Tp.Um hq
    have hqe:q=(a,key,b):=by
     rcases aqk.out with h | ⟨h,_⟩
     ·rw[rE.2]at h;injection h
     ·rw[rE.2]at h;cases h
    subst hqe;obtain⟨pc1,pc2,pc3,pc4,pc5,_⟩:=Tp.zF rE.2;obtain⟨nba,nbb⟩:=Uo rE.2 HNB;obtain⟨aC9,aDa,aBQ⟩:=Tp.amb pc4;have ayW:240<(Nd.size n:Int):=by omega
    obtain⟨oa,hoa⟩:=aJ (Tp.cO room f σ id a);have kW:o=Tp.QB room f b key oa:=by rw[HO.out,hoa];exact Tp.Xz HN0 hq
    have amd:oa.1≠ .error 3:=λhc=>H3.out (by rw[kW,Tp.KE hc]);have HIA:=IH.out σ id ZM (.agg #[.bool a.leaf, .slice A1 a.ents.length k1, .slice A2 a.kids.length k2, .slice A3 a.keys.length k3]) a nba (by rw[<-hoa];exact amd) w3 HNA.out.ns H5;rw[<-hoa]at HIA;have avC:=ah HIA;have pJ:=ah kW;have HOA:=ah hoa;have HPC:=ah (ahr pc1 (ahr pc2 (ahr pc3 pc5)));have avD:=ah nbb;have aBR:=ah amd;have e0:=aeC.out.cell 0;have e1:=aeC.out.cell 1;have e2:=aeC.out.cell 2;have e3:=aeC.out.cell 3;have la:=aeC.out.lt;generalize Nd.size n=szn at*;clear hq rE pc1 pc2 pc3 pc4 pc5 nba nbb kW hoa amd HIA;go_wp2_with fail
    refine aac avC ?_;rintro e w4 ⟨v,p,x,rfl,⟨Ap,cp,Aq,cq,rfl,V8,V9⟩,gJ,xw,dK⟩;have hzf:=dK.size;have pK:=ah ((Fr.of_below EU).trans dK:Fr S w w4);have NM:=ah (dK.blk XB (HM.out.far ak));have avE:=ah (dK.blk avz (HM.out.far ak));have avF:=ah (NF.fr avA dK (λk hk=>by have:=HM.out.low k hk;omega));have H6:=ah xw;have HP6:=ah (show PF w3.heap.size w4 (yN Ap p.1.length cp Aq p.2.length cq) p from⟨Ap,cp,Aq,cq,rfl,V8,V9⟩);have HPL:=ah (ahr (λg hg=>(ada V8 g hg).2) (λg hg=>(ada V9 g hg).2));clear dK xw V8 V9;rcases gJ with⟨jA,rfl,Fb⟩ | ⟨kQ,rfl⟩
    ·have kW:o=Tp.FV p key (Tp.cO room f oa.2 0 b):=by rw[pJ.out,Tp.abd jA]
     obtain⟨ob,RD⟩:=aJ (Tp.cO room f oa.2 0 b);have aql:ob.1≠ .error 3:=λhc=>H3.out (by rw[kW, <-RD,Tp.KD hc]);rw[<-RD]at kW;have akl:0<p.1.length:=Tp.Dc f σ id a p HPC.out.2.1 (by rw[<-HOA.out];exact jA);have HIB:=ah (λW (BQ:NS W (.agg #[.bool b.leaf, .slice B1 b.ents.length j1, .slice B2 b.kids.length j2, .slice B3 b.keys.length j3]) b) xw=>IH.out oa.2 0 (by unfold tV;omega) (.agg #[.bool b.leaf, .slice B1 b.ents.length j1, .slice B2 b.kids.length j2, .slice B3 b.keys.length j3]) b avD (by rw[<-RD];exact aql) W BQ xw);rw[<-RD]at HIB;have Yy:=(aai w4.heap.size w4).alloc aK (.cells #[.slice Ap p.1.length cp, .slice Aq p.2.length cq] 240);have rF:=aO.new w4 240 #[.slice Ap p.1.length cp, .slice Aq p.2.length cq];have H7:=ah (H6.out.below HM Yy);have xA:=ah (pK.out.trans (.of_below Yy):Fr S w _);have ah6:=ah (NM.out.alloc (.cells #[.slice Ap p.1.length cp, .slice Aq p.2.length cq] 240));have abe:=avE.out.alloc (.cells #[.slice Ap p.1.length cp, .slice Aq p.2.length cq] 240);have avG:=ah (NF.below avF Yy);have HP7:=ah (PF.below HP6 Yy);have HBq:=ah rF;have d0:=abe.cell 0;have d1:=abe.cell 1;have d2:=abe.cell 2;have d3:=abe.cell 3;have lb:=abe.lt;have pJ:=ah kW;have HOB:=ah RD;have HPB:=ah Fb;have HPP:=ah akl;unfold yN;clear e0 e1 e2 e3 jA Fb kW RD aql akl Yy rF abe;go_wp2_with fail
     refine aac (HIB.out _ avG.out.ns H7) ?_;rintro e w5 ⟨v,q,x,rfl,⟨Bp,dp,Bq,dq,rfl,rq1,rq2⟩,gJ,xw,dK⟩;have avH:=dK.size;simp only[aad]at avH;have Iu:=ah (xA.out.trans dK);have QD:=ah (dK.blk ah6 (HM.out.far ak));have avI:=ah (dK.blk HBq (HM.out.far ak));have HP8:=ah (PF.fr HP7 dK (λk hk=>by have:=HM.out.low k hk;omega));have H8:=ah xw;have HQ8:=ah (show PF (w4.heap.size+1) w5 (yN Bp q.1.length dp Bq q.2.length dq) q from⟨Bp,dp,Bq,dq,rfl,LO.lower rq1 aH,LO.lower rq2 aH⟩);clear dK xw rq1 rq2;rcases gJ with⟨jA,rfl,ZT⟩ | ⟨kQ,rfl⟩
     ·have dM:o=(.ok (p.1++q.1,p.2++ [key]++q.2),ob.2):=by rw[pJ.out,Tp.abb jA]
      have fE:=ah dM;have akm:0<q.1.length:=Tp.Dc f oa.2 0 b q HPC.out.2.2.1 (by rw[<-HOB.out];exact jA);have avJ:=ah (show Tp.PB (p.1++q.1,p.2++ [key]++q.2) (Tp.cnt n)from by rw[<-HPC.out.1];exact Tp.PB.join HPB ZT key HPC.out.2.2.2 HPP akm);have gI:=(aai w5.heap.size w5).alloc aK (.cells #[.slice Bp q.1.length dp, .slice Bq q.2.length dq] 240);have HF9:=ah (Iu.out.trans (.of_below gI):Fr S w _);have H9:=ah (H8.out.below HM gI);have abf:=ah (QD.out.alloc (.cells #[.slice Bp q.1.length dp, .slice Bq q.2.length dq] 240));have XC:=avI.out.alloc (.cells #[.slice Bp q.1.length dp, .slice Bq q.2.length dq] 240);have QF:=aO.new w5 240 #[.slice Bp q.1.length dp, .slice Bq q.2.length dq];have hP9:=PF.below HP8 gI;have hQ9:=PF.below HQ8 gI;have avK:(w5.alloc (.cells #[.slice Bp q.1.length dp, .slice Bq q.2.length dq] 240)).heap.size=w5.heap.size+1:=by simp
      have bl1:=HPB.out.len;have bl2:=ZT.len;have bl3:=HPB.out.keys;have bl4:=ZT.keys;have bl5:=HPC.out.1;have bl6:Tp.cnt n<=200000:=by have:=HNB.out.e;have:=HNB.out.i;unfold Tp.cnt;omega
      have bp2:p.2.length<=200000:=by omega
      have bq2:q.2.length<=200000:=by omega
      have bp1:p.1.length<=200000:=by omega
      have bq1:q.1.length<=200000:=by omega
      obtain⟨_,_,_,_,ep,pi,pk⟩:=hP9;unfold yN at ep;simp only[ajE,ajV,ajF,aho,and_true,true_and]at ep;obtain⟨⟨rfl,rfl⟩,rfl,rfl⟩:=ep;obtain⟨_,_,_,_,eq,qi,qk⟩:=hQ9;unfold yN at eq;simp only[ajE,ajV,ajF,aho,and_true,true_and]at eq;obtain⟨⟨rfl,rfl⟩,rfl,rfl⟩:=eq;generalize hw9:(w5.alloc (.cells #[.slice Bp q.1.length dp, .slice Bq q.2.length dq] 240))=w9 at*;have c0:=XC.cell 0;have c1:=XC.cell 1;have c2:=QF.cell 0;have c3:=QF.cell 1;have l1:=XC.lt;have l2:=QF.lt;have akn:w9.drew.ownsRow w3.heap.size 9 1 (.slice Aq p.2.length cq) p.2.length (keyE.cells p.2):=pk.raw rfl rfl
      have hK:∀v' w',w'.ownsRow w3.heap.size 9 1 v' (p.2.length+1) (keyE.cells p.2++ [.string key])->w9.drew.grownBy w' (ady Aq p.2.length cq).ownBlock->w'.cell? ⟨w5.heap.size,1,none⟩=some (.slice Bq q.2.length dq)/\w5.heap.size<w'.heap.size/\w3.heap.size<=w'.heap.size/\Reads w' w'.heap.size 1 Bq q.2.length (keyE.cells q.2):=λv' w' h1 h2=>by
       have h3:w9.grownBy w' (ady Aq p.2.length cq).ownBlock:=⟨h2.os,h2.tape,h2.output,h2.size,h2.block⟩;have hB:=QF.grown h3 (λe=>bM pk QF ay e.symm)
       have hqk:LO keyE 9 w' (w4.heap.size+1) (.slice Bq q.2.length dq) q.2:=LO.held qk (λg hg=>h3.block g (ada qk g hg).2 (λe=>by
        have a1:=(ada qk g hg).1;have a2:=HPL.out.2 g e.symm
        omega))
       have fG:=h3.size;exact⟨hB.cell 1,hB.lt,by omega,hqk.ls⟩
      have HK:=ah hK;have avL:w3.heap.size<=w9.drew.heap.size:=by show w3.heap.size<=w9.heap.size;omega
      obtain⟨ik,IX⟩:=SQ;have HEK:=ah IX;clear IX
      have hZ:∀v' w10 v2 xB,w10.ownsRow w3.heap.size 9 1 v' (p.2.length+1) (keyE.cells p.2++ [.string key])->w9.drew.grownBy w10 (ady Aq p.2.length cq).ownBlock->xB.ownsRow w3.heap.size 9 1 v2 (p.2.length+1+q.2.length) (keyE.cells p.2++ [.string key]++keyE.cells q.2)->w10.grownBy xB v'.ownBlock->Hid (On S B t u TM root er r ob.2 xB/\Fr S w xB/\aO xB (w.heap.size+1) 240 #[.slice none 0 0, .slice none 0 0]/\LO keyE 9 xB w3.heap.size v2 (p.2++ [key]++q.2)/\LO fZ 3 xB w3.heap.size (.slice Ap p.1.length cp) p.1/\LO fZ 3 xB (w4.heap.size+1) (.slice Bp q.1.length dp) q.1)/\xB.cell? ⟨w4.heap.size,0,none⟩=some (.slice Ap p.1.length cp)/\xB.cell? ⟨w5.heap.size,0,none⟩=some (.slice Bp q.1.length dp)/\w4.heap.size<xB.heap.size/\w5.heap.size<xB.heap.size/\w3.heap.size<=xB.heap.size:=λv' w10 v2 xB h1 h2 h3 h4=>by
       have Na:w9.grownBy w10 (ady Aq p.2.length cq).ownBlock:=⟨h2.os,h2.tape,h2.output,h2.size,h2.block⟩;have avM:=H9.out.row HM pk ak ay ay ay ay ay Na;have ah7:=avM.row HM h1 ak ay ay ay ay ay h4;have aqm:=XC.grown Na (λe=>bM pk XC ay e.symm);have aqn:=aqm.grown h4 (λe=>bM h1 aqm ay e.symm);have aqo:=QF.grown Na (λe=>bM pk QF ay e.symm);have aqp:=aqo.grown h4 (λe=>bM h1 aqo ay e.symm);have aqr:=abf.out.grown Na (λe=>bM pk abf ay e.symm);have aeD:=aqr.grown h4 (λe=>bM h1 aqr ay e.symm);have Ur:=LO.aeB (LO.aeB pi pk ay Na) h1 ay h4;have ah8:=LO.aeB (LO.aeB qi pk ay Na) h1 ay h4;have ah9:LO keyE 9 xB w3.heap.size v2 (p.2++ [key]++q.2):=LO.aeA rfl (by simp[aag];omega) (by rw[keyE.kF,keyE.kF];rfl) h3;have IL:Fr S w xB:=Fr.old (S':=λk=>S k\/w.heap.size<=k) (((HF9.out.more λ_=> .inl).trans ((Fr.iO Na).more λk hk=> .inr (by have:=(ada pk k hk).1;omega))).trans ((Fr.iO h4).more λk hk=> .inr (by have:=(ada h1 k hk).1;omega))) (λk hk=>hk);have z1:=Na.size;have z2:=h4.size;exact⟨ah ⟨ah7,IL,aeD,ah9,Ur,ah8⟩,aqn.cell 0,aqp.cell 0,aqn.lt,aqp.lt,by omega⟩
      have HZ:=ah hZ;clear hZ;have HPI:=ah pi;have HPK:=ah pk;have HQI:=ah qi;have HQK:=ah qk;have aBS:=ah XC;have aBT:=ah QF;unfold yN;clear avK dM akm jA ZT gI XC QF pi pk qi qk hK bl1 bl2 bl3 bl4 bl5 bl6 d0 d1 d2 d3;go_wp2_with fail
      go_region_law (first | (refine aal rfl (.tmp 61) (.tmp 63) 110 rfl SQ underlying110 rfl ay rfl akn rfl (by simp<;>omega) rfl (by simp[Value.oneCell']) (by unfold maxLen;omega) ak avL ?_;intro v' w10 eG jT iT;obtain⟨n1,n2,n3,n4⟩:=HK.out v' w10 eG jT;obtain⟨A10,c10,rfl⟩:=DK eG) | (refine IB _ rfl (.tmp 64) (.tmp 66) 110 rfl w3.heap.size 9 _ _ 1 16 underlying110 HEK.out.1 HEK.out.2.1 HEK.out.2.2.1 HEK.out.2.2.2 rfl ay _ _ _ rfl eG _ _ _ _ _ rfl n4 (keyE.sH _) (by unfold maxLen;omega) ak n3 ?_;intro v2 xB rP agF avN;obtain⟨RF,s1,s2,s3,s4,s5⟩:=HZ.out _ _ v2 xB eG jT rP agF;obtain⟨A11,c11,rfl⟩:=DK rP))
      all_goals
       obtain⟨ah7,IL,aeD,ah9,Ur,ah8⟩:=RF.out;have hri:xB.ownsRow w3.heap.size 3 1 (.slice Ap p.1.length cp) p.1.length (fZ.cells p.1):=Ur.raw rfl rfl;have hqr:=ah8.ls
       have hT:∀v3 w12,w12.ownsRow w3.heap.size 3 1 v3 (p.1.length+q.1.length) (fZ.cells p.1++fZ.cells q.1)->xB.grownBy w12 (ady Ap p.1.length cp).ownBlock->Hid (On S B t u TM root er r ob.2 w12/\Fr S w w12/\aO w12 (w.heap.size+1) 240 #[.slice none 0 0, .slice none 0 0]/\LO keyE 9 w12 w3.heap.size (.slice A11 (p.2.length+1+q.2.length) c11) (p.2++ [key]++q.2)/\LO fZ 3 w12 w3.heap.size v3 (p.1++q.1))/\w12.cell? ⟨w.heap.size+1,0,none⟩=some (.slice none 0 0)/\w12.cell? ⟨w.heap.size+1,1,none⟩=some (.slice none 0 0)/\w12.frozen? ⟨w.heap.size+1,0,none⟩=false/\w12.frozen? ⟨w.heap.size+1,1,none⟩=false/\w.heap.size+1<w12.heap.size:=λv3 w12 h1 h2=>by
        have abg:=aeD.grown h2 (λe=>bM Ur aeD ay e.symm);exact⟨ah ⟨ah7.row HM Ur ak ay ay ay ay ay h2,Fr.old (S':=λk=>S k\/w.heap.size<=k) ((IL.more λ_=> .inl).trans ((Fr.iO h2).more λk hk=> .inr (by have:=(ada Ur k hk).1;omega))) (λk hk=>hk),abg,LO.aeB ah9 Ur ay h2,LO.aeA rfl aH (by rw[fZ.kF]) h1⟩,abg.cell 0,abg.cell 1,abg.frozen 0,abg.frozen 1,abg.lt⟩
       have HT:=ah hT;clear ah7 IL aeD ah9 Ur ah8 hT rP agF avN eG jT iT n1 n2 n3 n4 akn;go_wp2_with (at_builtin;refine lJ rfl (.tmp 69) (.tmp 71) 32 rfl SN underlying32 rfl ay rfl hri rfl hqr (fZ.sH _) (by unfold maxLen;omega) ak s5 ?_;intro v3 w12 BX an9 ayX;obtain⟨HE,y1,y2,y3,y4,y5⟩:=HT.out v3 w12 BX an9;obtain⟨A12,c12,rfl⟩:=DK BX)
       try simp only[ac3,Exit.then]
       refine bodyPost_ret (bJ iw rfl rfl (HE.out.2.2.1.jg _ _) rfl) rfl ?_;exact nT (p:=(p.1++q.1,p.2++ [key]++q.2)) HM HE.out.2.1 (by rw[fE.out];exact HE.out.1) HE.out.2.2.1 ak fG ak (Fr.jg _ _) (BM (LO.lower (LO.Nb HE.out.2.2.2.2 (Fr.jg _ _) (λg hg e=>bM HE.out.2.2.2.2 HE.out.2.2.1 ay (e ▸ hg))) ak) (LO.lower (LO.Nb HE.out.2.2.2.1 (Fr.jg _ _) (λg hg e=>bM HE.out.2.2.2.1 HE.out.2.2.1 ay (e ▸ hg))) ak)) (.inl ⟨by rw[fE.out],rfl,avJ⟩)
     ·unfold yN;have d0:=QD.out.cell 0;have d1:=QD.out.cell 1;have f0:=QD.out.frozen 0;have f1:=QD.out.frozen 1;have lp:=QD.out.lt;have dM:o=(.error 2,ob.2):=by rw[pJ.out,Tp.KD kQ]
      have fE:=ah dM;clear kQ dM;go_wp2
      try simp only[ac3,Exit.then]
      refine bodyPost_ret (bJ iw rfl rfl ((QD.out.jg _ _).alloc _) rfl) rfl ?_;exact nT HM Iu (by rw[fE.out];exact H8) QD ak fG ak ((Fr.jg _ _).trans (.of_below (aU.alloc aK _))) (KF _ _) (.inr ⟨by rw[fE.out],rfl⟩)
    ·unfold yN;have d0:=NM.out.cell 0;have d1:=NM.out.cell 1;have f0:=NM.out.frozen 0;have f1:=NM.out.frozen 1;have lp:=NM.out.lt;have dM:o=(.error 2,oa.2):=by rw[pJ.out,Tp.KE kQ]
     have fE:=ah dM;clear kQ dM e0 e1 e2 e3;go_wp2
     try simp only[ac3,Exit.then]
     refine bodyPost_ret (bJ iw rfl rfl ((NM.out.jg _ _).alloc _) rfl) rfl ?_;exact nT HM pK (by rw[fE.out];exact H6) NM ak fG ak ((Fr.jg _ _).trans (.of_below (aU.alloc aK _))) (KF _ _) (.inr ⟨by rw[fE.out],rfl⟩)
   ·have Gv:Tp.cut n=none:=by
     cases hc:Tp.cut n with
     |none=>rfl
     |some q=>exact absurd ⟨q,hc⟩ hcut
    have kW:o=Tp.QC (Tp.ku room σ id n):=by rw[HO.out];exact Tp.Eb HN0 Gv
    have iE:Nd.fits n=true:=by
     cases hf:Nd.fits n with
     |true=>rfl
     |false=>
      refine absurd ?_ H3;rw[kW];unfold Tp.ku;rw[if_pos hf];rfl
    have agG:¬240<Nd.size n\/key=⟨#[]⟩:=by
     rcases aqk.out with h | ⟨_,h,_⟩
     ·exact .inl λh24=>hcut ⟨(a,key,b),by unfold Tp.cut;rw[if_pos h24,h]⟩
     ·exact .inr h
    have nH:1<=Tp.cnt n:=by have:=HN0.out;unfold Tp.cnt;omega
    have Vy:=ah (Uk HM u root er r σ id ZM (.agg #[.bool n.leaf, .slice Ae n.ents.length ce, .slice Ai n.kids.length ci, .slice Ay n.keys.length cy]) n iE w3 (HNS.out _ EU) H5);obtain⟨os,hos⟩:=aJ (Tp.ku room σ id n);rw[<-hos]at Vy kW;have pJ:=ah kW;have ame:=ah nH;have e0:=NK.out.cell 0;have e1:=NK.out.cell 1;have e2:=NK.out.cell 2;have e3:=NK.out.cell 3;have la:=NK.out.lt;clear hcut Gv kW iE nH hos;rcases agG with hlt | hke
    ·have hle:¬240<(Nd.size n:Int):=by omega
     generalize Nd.size n=szn at*;clear hlt;go_wp2_with fail
     refine aac Vy ?_;rintro e w4 ⟨pg,x,rfl,gJ,xw,dK⟩;have pK:=ah ((Fr.of_below EU).trans dK:Fr S w w4);have uI:=dK.blk XB (HM.out.far ak);have d0:=uI.cell 0;have d1:=uI.cell 1;have f0:=uI.frozen 0;have f1:=uI.frozen 1;have lp:=uI.lt;have ZR:=ah uI;have RF:=ah xw;have FW:=ah gJ;have hzf:=dK.size;clear dK xw uI gJ;go_wp2
     try simp only[ac3,Exit.then]
     refine bodyPost_ret (bJ iw rfl rfl ((ZR.out.jg _ _).alloc _) rfl) rfl ?_;rcases FW.out with⟨jA,rfl,_⟩ | ⟨kQ,rfl⟩
     ·exact nT (p:=([pg], [])) HM pK (by rw[pJ.out,Tp.sN jA];exact RF) ZR ak fG ak ((Fr.jg _ _).trans (.of_below (aU.alloc aK _))) (BM (LO.one rfl rfl (qA aH) ak) (LO.nil_ _ _)) (.inl ⟨by rw[pJ.out,Tp.sN jA],rfl,Tp.PB.one _ ame⟩)
     ·exact nT (p:=([pg], [])) HM pK (by rw[pJ.out,Tp.qy kQ];exact RF) ZR ak fG ak ((Fr.jg _ _).trans (.of_below (aU.alloc aK _))) (BM (LO.one rfl rfl (qA aH) ak) (LO.nil_ _ _)) (.inr ⟨by rw[pJ.out,Tp.qy kQ],rfl⟩)
    ·subst hke;by_cases hlt:240<Nd.size n
     ·have hgt:240<(Nd.size n:Int):=by omega
      generalize Nd.size n=szn at*;clear hlt;go_wp2_with fail
      refine aac Vy ?_;rintro e w4 ⟨pg,x,rfl,gJ,xw,dK⟩;have pK:=ah ((Fr.of_below EU).trans dK:Fr S w w4);have uI:=dK.blk XB (HM.out.far ak);have d0:=uI.cell 0;have d1:=uI.cell 1;have f0:=uI.frozen 0;have f1:=uI.frozen 1;have lp:=uI.lt;have ZR:=ah uI;have RF:=ah xw;have FW:=ah gJ;have hzf:=dK.size;clear dK xw uI gJ;go_wp2
      try simp only[ac3,Exit.then]
      refine bodyPost_ret (bJ iw rfl rfl ((ZR.out.jg _ _).alloc _) rfl) rfl ?_;rcases FW.out with⟨jA,rfl,_⟩ | ⟨kQ,rfl⟩
      ·exact nT (p:=([pg], [])) HM pK (by rw[pJ.out,Tp.sN jA];exact RF) ZR ak fG ak ((Fr.jg _ _).trans (.of_below (aU.alloc aK _))) (BM (LO.one rfl rfl (qA aH) ak) (LO.nil_ _ _)) (.inl ⟨by rw[pJ.out,Tp.sN jA],rfl,Tp.PB.one _ ame⟩)
      ·exact nT (p:=([pg], [])) HM pK (by rw[pJ.out,Tp.qy kQ];exact RF) ZR ak fG ak ((Fr.jg _ _).trans (.of_below (aU.alloc aK _))) (BM (LO.one rfl rfl (qA aH) ak) (LO.nil_ _ _)) (.inr ⟨by rw[pJ.out,Tp.qy kQ],rfl⟩)
     ·have hle:¬240<(Nd.size n:Int):=by omega
      generalize Nd.size n=szn at*;clear hlt;go_wp2_with fail
      refine aac Vy ?_;rintro e w4 ⟨pg,x,rfl,gJ,xw,dK⟩;have pK:=ah ((Fr.of_below EU).trans dK:Fr S w w4);have uI:=dK.blk XB (HM.out.far ak);have d0:=uI.cell 0;have d1:=uI.cell 1;have f0:=uI.frozen 0;have f1:=uI.frozen 1;have lp:=uI.lt;have ZR:=ah uI;have RF:=ah xw;have FW:=ah gJ;have hzf:=dK.size;clear dK xw uI gJ;go_wp2
      try simp only[ac3,Exit.then]
      refine bodyPost_ret (bJ iw rfl rfl ((ZR.out.jg _ _).alloc _) rfl) rfl ?_;rcases FW.out with⟨jA,rfl,_⟩ | ⟨kQ,rfl⟩
      ·exact nT (p:=([pg], [])) HM pK (by rw[pJ.out,Tp.sN jA];exact RF) ZR ak fG ak ((Fr.jg _ _).trans (.of_below (aU.alloc aK _))) (BM (LO.one rfl rfl (qA aH) ak) (LO.nil_ _ _)) (.inl ⟨by rw[pJ.out,Tp.sN jA],rfl,Tp.PB.one _ ame⟩)
      ·exact nT (p:=([pg], [])) HM pK (by rw[pJ.out,Tp.qy kQ];exact RF) ZR ak fG ak ((Fr.jg _ _).trans (.of_below (aU.alloc aK _))) (BM (LO.one rfl rfl (qA aH) ak) (LO.nil_ _ _)) (.inr ⟨by rw[pJ.out,Tp.qy kQ],rfl⟩)
end
end Go.Proofs.YtadnmegdbllaoaaGreatDoor
namespace Tp
open Nd En
def qW(n:Node)(j:Nat)(q:Except Int Int × dR):Except Int Node × dR:=match q with
 |(.error e,σ1)=>(.error e,σ1)
 |(.ok page,σ1)=>(.ok (swap n j (j+2) [page] []),iK σ1 (n.kids.getD (j+1) 0))
theorem QG{n:Node}{j:Nat}{q:Except Int Int × dR}{e:Int}(h:q.1= .error e):qW n j q=(.error e,q.2):=by
 obtain⟨x,σ⟩:=q;simp only at h;subst h;rfl
theorem Us{n:Node}{j:Nat}{q:Except Int Int × dR}{i:Int}(h:q.1= .ok i):qW n j q=(.ok (swap n j (j+2) [i] []),iK q.2 (n.kids.getD (j+1) 0)):=by
 obtain⟨x,σ⟩:=q;simp only at h;subst h;rfl
def Ht(room:Int)(σ:dR)(n:Node)(j:Nat)(a b:Node):Except Int Node × dR:=
 if(a.leaf != b.leaf)=true\/fits (join a (n.keys.getD j ⟨#[]⟩) b)=false then(.ok n,σ)else qW n j (ku room σ (n.kids.getD j 0) (join a (n.keys.getD j ⟨#[]⟩) b))
theorem abh{room:Int}{disk:iW}{σ:dR}{n kid:Node}{i d:Nat}(hd:¬24<=d)(hk:σ.view disk (n.kids.getD i 0)=some kid)(h80:80<=size kid):oO room disk σ n i d=(.ok n,σ):=by
 unfold oO;rw[if_neg hd,hk];simp only;rw[if_pos h80]
theorem Ut{room:Int}{disk:iW}{σ:dR}{n kid:Node}{i d:Nat}(hd:¬24<=d)(hk:σ.view disk (n.kids.getD i 0)=some kid)(h80:¬80<=size kid)(h3:(oO room disk σ n i d).1≠ .error 3):
  ∃a b,σ.view disk (n.kids.getD (MG n i) 0)=some a/\σ.view disk (n.kids.getD (MG n i+1) 0)=some b/\oO room disk σ n i d=Ht room σ n (MG n i) a b:=by
 unfold oO at h3 ⊢;rw[if_neg hd,hk]at h3 ⊢;simp only at h3 ⊢;rw[if_neg h80]at h3 ⊢
 cases ha:σ.view disk (n.kids.getD (MG n i) 0)with
 |none=>rw[ha]at h3;exact absurd rfl h3
 |some a=>
  rw[ha]at h3;simp only at h3 ⊢
  cases hb:σ.view disk (n.kids.getD (MG n i+1) 0)with
  |none=>rw[hb]at h3;exact absurd rfl h3
  |some b=>
   refine⟨a,b,rfl,rfl, ?_⟩;simp only;unfold Ht;split
   ·rfl
   ·cases ku room σ (n.kids.getD (MG n i) 0) (join a (n.keys.getD (MG n i) ⟨#[]⟩) b)with
    |mk q σ1=>cases q<;>rfl
theorem aeE{n:Node}{i:Nat}(hi:i<n.kids.length)(h2:1<n.kids.length):MG n i+1<n.kids.length/\((i+1=n.kids.length/\MG n i+1=i)\/(i+1≠n.kids.length/\MG n i=i)):=by
 unfold MG;split<;>omega
end Tp
namespace Go.Proofs.YtadnmegdbllaoaaGreatDoor
open Go.RowKit Go.Shelf Tryz
theorem aeF:∀args w,(callFunc 218 args).run prog w= .ok (.enter 218 args) w:=λargs w=>by kernel_rfl
theorem aeG:∀args w,(callFunc 185 args).run prog w= .ok (.enter 185 args) w:=λargs w=>by kernel_rfl
theorem aeH:∀args w,(callFunc 182 args).run prog w= .ok (.enter 182 args) w:=λargs w=>by kernel_rfl
theorem LS.int'{w:World}{B b off:Nat}{l:List Int}(h:LS fZ w B (some ⟨b,off,none⟩) l){k:Nat}(hk:k<l.length):w.cell? ⟨b,off+k,none⟩=some (.int .i64 l[k]):=by
 obtain⟨b',o',e,_,g⟩:=h.int hk;injection e with e;injection e with e1 e2;subst e1 e2;exact g
theorem LS.key'{w:World}{B b off:Nat}{l:List ByteArray}(h:LS keyE w B (some ⟨b,off,none⟩) l){k:Nat}(hk:k<l.length):w.cell? ⟨b,off+k,none⟩=some (.string l[k]):=by
 obtain⟨b',o',e,_,g⟩:=h.key hk;injection e with e;injection e with e1 e2;subst e1 e2;exact g
theorem Fr.uP{w:World}{g:Nat}(a' b' c' d':Value):Fr (λk=>k=g) w ((((w.setCell ⟨g,0,none⟩ a').setCell ⟨g,1,none⟩ b').setCell ⟨g,2,none⟩ c').setCell ⟨g,3,none⟩ d'):=Fr.vI (S:=λk=>k=g) rfl _ _ _ _
theorem NF.frP{lo g:Nat}{w w':World}{v:Value}{n:Nd.Node}{cs:Array Value}{ty:TypeId}(h:NF lo w v n)(hB:aO w g ty cs)(hf:Fr (λk=>k=g) w w')(h1:94≠ty:=by decide)(h2:3≠ty:=by decide)(h3:9≠ty:=by decide):NF lo w' v n:=by
 obtain⟨Ae,ce,Ai,ci,Ay,cy,e,q1,q2,q3⟩:=h;exact⟨Ae,ce,Ai,ci,Ay,cy,e,LO.Nb q1 hf (λg' hg e=>bM q1 hB h1 (e ▸ hg)),LO.Nb q2 hf (λg' hg e=>bM q2 hB h2 (e ▸ hg)),LO.Nb q3 hf (λg' hg e=>bM q3 hB h3 (e ▸ hg))⟩
theorem XD(va vb:Value)(a b:Nd.Node)(key:ByteArray)(hl:a.leaf≠b.leaf)(w:World)(ha:NS w va a)(hb:NS w vb b)(rO:NB a):
  Calls prog 218 #[va, .string key,vb] w λe w'=>∃v',e= .returned v'/\NF w.heap.size w' v' a/\Below w.heap.size w w':=by
 obtain⟨EK,EL,EM,EN,EO,EP,rfl,ha1,Oa,V3⟩:=ha;obtain⟨Gw,Gx,Gy,Gz,GH,GI,rfl,bD,bK,dJ⟩:=hb;have HC:=ah (λW (jU:Below w.heap.size w W)=>J7 (.agg #[.bool a.leaf, .slice EK a.ents.length EL, .slice EM a.kids.length EN, .slice EO a.keys.length EP]) a W ⟨EK,EL,EM,EN,EO,EP,rfl,ha1.up jU,Oa.up jU,V3.up jU⟩ rO);unfold dw;have MI:=((aO.new w 188 #[.bool a.leaf, .slice EK a.ents.length EL, .slice EM a.kids.length EN, .slice EO a.keys.length EP]).alloc (.cells #[.bool b.leaf, .slice Gw b.ents.length Gx, .slice Gy b.kids.length Gz, .slice GH b.keys.length GI] 188)).alloc (.cells #[.bool false, .slice none 0 0, .slice none 0 0, .slice none 0 0] 188);have Dv:=(aO.new (w.alloc (.cells #[.bool a.leaf, .slice EK a.ents.length EL, .slice EM a.kids.length EN, .slice EO a.keys.length EP] 188)) 188 #[.bool b.leaf, .slice Gw b.ents.length Gx, .slice Gy b.kids.length Gz, .slice GH b.keys.length GI]).alloc (.cells #[.bool false, .slice none 0 0, .slice none 0 0, .slice none 0 0] 188);have uo:=aO.new ((w.alloc (.cells #[.bool a.leaf, .slice EK a.ents.length EL, .slice EM a.kids.length EN, .slice EO a.keys.length EP] 188)).alloc (.cells #[.bool b.leaf, .slice Gw b.ents.length Gx, .slice Gy b.kids.length Gz, .slice GH b.keys.length GI] 188)) 188 #[.bool false, .slice none 0 0, .slice none 0 0, .slice none 0 0];have ER:=(aai w.heap.size w).alloc aK (.cells #[.bool a.leaf, .slice EK a.ents.length EL, .slice EM a.kids.length EN, .slice EO a.keys.length EP] 188);have jB:=ER.alloc ER.size (.cells #[.bool b.leaf, .slice Gw b.ents.length Gx, .slice Gy b.kids.length Gz, .slice GH b.keys.length GI] 188);have uZ:=jB.alloc jB.size (.cells #[.bool false, .slice none 0 0, .slice none 0 0, .slice none 0 0] 188);simp only[aad]at Dv uo;have hz:(((w.alloc (.cells #[.bool a.leaf, .slice EK a.ents.length EL, .slice EM a.kids.length EN, .slice EO a.keys.length EP] 188)).alloc (.cells #[.bool b.leaf, .slice Gw b.ents.length Gx, .slice Gy b.kids.length Gz, .slice GH b.keys.length GI] 188)).alloc (.cells #[.bool false, .slice none 0 0, .slice none 0 0, .slice none 0 0] 188)).heap.size=w.heap.size+3:=by simp
 obtain⟨ND,wX⟩:∃x:Nd.Node,x=a:=⟨_,rfl⟩;have RV:=ah wX;have hq:∀lo W v,NF lo W v a->NF lo W v ND:=λlo W v h=>by rw[wX];exact h
 have HQ:=ah hq;have ak0:(λe w'=>∃v',e=akO v'/\NF w.heap.size w' v' a/\Below w.heap.size w w')=(λe w'=>∃v',e=akO v'/\NF w.heap.size w' v' ND/\Below w.heap.size w w'):=by rw[wX]
 rw[ak0]
 have h4:(a.leaf=true/\b.leaf=false)\/(a.leaf=false/\b.leaf=true):=by
  cases h1:a.leaf<;>cases h2:b.leaf<;>simp_all
 have BZ:=ah uZ;have HBr:=ah uo;have a0:=MI.cell 0;have a1:=MI.cell 1;have a2:=MI.cell 2;have a3:=MI.cell 3;have la:=MI.lt;have c0:=Dv.cell 0;have lb:=Dv.lt;clear rO hl ER jB uZ MI Dv uo wX hq ak0;rcases h4 with⟨h4,h5⟩ | ⟨h4,h5⟩
 all_goals
  rw[h4]at HC BZ HBr a0 a1 a2 a3 la c0 lb hz ⊢;rw[h5]at BZ HBr a0 a1 a2 a3 la c0 lb hz ⊢;clear h4 h5;go_enter func218,ntmps218
  go_wp2_with fail
  refine(HC.out _ BZ).mono ?_;rintro e w1 ⟨v',rfl,GK,bD⟩;have zy:=BZ.out.trans (bD.mono BZ.out.size);have gI:=bD.size;have uo:=HBr.out.below bD HBr.out.lt;obtain⟨A1,k1,A2,k2,A3,k3,rfl,r⟩:=GK;have d0:=uo.cell 0;have d1:=uo.cell 1;have d2:=uo.cell 2;have d3:=uo.cell 3;have f0:=uo.frozen 0;have f1:=uo.frozen 1;have f2:=uo.frozen 2;have f3:=uo.frozen 3;have lr:=uo.lt;have H2:=ah uo;have HR:=ah (NF.lower (lo':=w.heap.size) (v:=dw a.leaf A1 a.ents.length k1 A2 a.kids.length k2 A3 a.keys.length k3) ⟨A1,k1,A2,k2,A3,k3,rfl,r⟩ ak);unfold dw;clear bD uo r a0 a1 a2 a3 c0 la lb;go_wp2
  try simp only[ac3,Exit.then]
  refine bodyPost_ret (eF bY rfl rfl (H2.out.vI _ _ _ _) rfl) rfl ?_;exact⟨_,rfl,HQ _ _ _ (NF.frP HR H2 (Fr.uP _ _ _ _)),zy.trans ((Fr.uP _ _ _ _).low ak (λk hk=>by omega))⟩
theorem aeI(va vb:Value)(a b:Nd.Node)(key:ByteArray)(w:World)(ha:NS w va a)(hb:NS w vb b)(rO:NB a)(rJ:NB b):
  Calls prog 218 #[va, .string key,vb] w λe w'=>∃v',e= .returned v'/\NF w.heap.size w' v' (Nd.join a key b)/\Below w.heap.size w w':=by
 by_cases hl:a.leaf=b.leaf
 case neg=>
  have e0:Nd.join a key b=a:=by unfold Nd.join;rw[if_pos (by simpa using hl)]
  rw[e0];exact XD va vb a b key hl w ha hb rO
 cases h:a.leaf with
 |true=>
  have e0:Nd.join a key b=⟨true,a.ents++b.ents,a.kids++b.kids,a.keys++b.keys⟩:=by
   unfold Nd.join;rw[<-hl,h];rfl
  rw[e0];exact aaM va vb a b key h (hl ▸ h) w ha hb rO rJ
 |false=>
  have e0:Nd.join a key b=⟨false,a.ents++b.ents,a.kids++b.kids,a.keys++ [key]++b.keys⟩:=by
   unfold Nd.join;rw[<-hl,h];rfl
  rw[e0];exact Xi va vb a b key h (hl ▸ h) w ha hb rO rJ
theorem abj{room:Int}{σ:Tp.dR}{n a b:Nd.Node}{j:Nat}{k:ByteArray}(hk:n.keys.getD j ⟨#[]⟩=k)(RG:(a.leaf != b.leaf)=false)(iE:Nd.fits (Nd.join a k b)=true):Tp.Ht room σ n j a b=Tp.qW n j (Tp.ku room σ (n.kids.getD j 0) (Nd.join a k b)):=by
 unfold Tp.Ht;rw[hk,if_neg];rintro(h | h)
 ·rw[RG]at h;cases h
 ·rw[iE]at h;cases h
theorem aia{a b:Nd.Node}{k:ByteArray}(ha:Nd.fits a=true)(hb:Nd.fits b=true)(hk:k.size<=16):NB (Nd.join a k b):=by
 have sm:∀ {n:Nd.Node},Nd.fits n=true->n.ents.length<=300/\n.kids.length<=300/\n.keys.length<=300/\Nd.bP n.ents<=300/\Nd.bH n.keys<=300:=by
  intro n h;obtain⟨hr,hs⟩:=Tp.eP.1 h;obtain⟨leaf,ents,kids,keys⟩:=n
  cases leaf with
  |true=>
   obtain⟨h1,rfl,rfl⟩:=Nd.jm.1 hr;have hs:Nd.bP ents<=240:=hs;have:=Nd.mD ents;refine⟨by show ents.length<=_;omega,ac4 _,ac4 _,by show Nd.bP ents<=_;omega,by show Nd.bH []<=_;simp[Nd.bH]⟩
  |false=>
   obtain⟨rfl,h2,_,_⟩:=Nd.dV.1 hr;have hs:4+Nd.bH keys<=240:=hs;have:=Nd.Ak keys;exact⟨ac4 _,by show kids.length<=_;omega,by show keys.length<=_;omega,by show Nd.bP []<=_;simp[Nd.bP],by show Nd.bH keys<=_;omega⟩
 obtain⟨a1,a2,a3,a4,a5⟩:=sm ha;obtain⟨b1,b2,b3,b4,b5⟩:=sm hb;unfold Nd.join;split
 ·exact⟨by omega,by omega,by omega,by omega,by omega⟩
 ·split
  ·exact⟨by simp only[aag];omega,by simp only[aag];omega,by simp only[aag];omega,by simp only[Nd.oL];omega,by simp only[Nd.fB];omega⟩
  ·have e:Nd.bH [k]=5+k.size:=by rw[Nd.jQ];unfold Nd.ksz;simp[Nd.bH]
   exact⟨by simp only[aag];omega,by simp only[aag];omega,by simp only[aag,acH,adh];omega,by simp only[Nd.oL];omega,by simp only[Nd.fB,e];omega⟩
section
variable {S:Nat->Prop}{B t:Nat}{room:Int}{disk:Tp.iW}{TM:Nat->Tp.dR->World->Prop}
def Zd(S:Nat->Prop)(B t u:Nat)(TM:Nat->Tp.dR->World->Prop)(root er:Int)(r lo:Nat)(o:Except Int Nd.Node × Tp.dR)(w:World)(e:Ending)(w':World):Prop:=
 ∃v n',∃x:Int,e= .returned (.tuple #[v, .int .i64 x])/\NF lo w' v n'/\((o.1= .ok n'/\x=0)\/(o.1= .error 2/\x=2))/\On S B t u TM root er r o.2 w'/\Fr S w w'
theorem zG(M:oU S B t room disk TM){u r lo:Nat}{root er x:Int}{o:Except Int Nd.Node × Tp.dR}{n':Nd.Node}{w w4 wf:World}{g:Nat}{cs:Array Value}{v:Value}(hF:Fr S w w4)(xw:On S B t u TM root er r o.2 w4)(hB:aO w4 g 188 cs)(hg:w.heap.size<=g)(fG:B<=w.heap.size)(hgu:g≠u)(dK:Fr (λk=>k=g) w4 wf)(hp:NF lo wf v n')(hr:(o.1= .ok n'/\x=0)\/(o.1= .error 2/\x=2)):Zd S B t u TM root er r lo o w (.returned (.tuple #[v, .int .i64 x])) wf:=
 ⟨v,n',x,rfl,hp,hr,xw.own M dK hB ak hgu ay ay ay ay,Fr.old (S':=λk=>S k\/k=g) ((hF.more λ_=> .inl).trans (dK.more λ_=> .inr)) (λk hk=>hk.imp_right λe=>by omega)⟩
theorem NF.kid{lo:Nat}{w:World}{Ae Ai Ay:Option Addr}{ce ci cy:Nat}{n:Nd.Node}(h:NF lo w (dw n.leaf Ae n.ents.length ce Ai n.kids.length ci Ay n.keys.length cy) n):LS fZ w w.heap.size Ai n.kids/\LS keyE w w.heap.size Ay n.keys:=by
 obtain⟨_,_,_,_,_,_,e,h1,h2,h3⟩:=h;unfold dw at e;simp only[ajE,ajV,ajF,aho,and_true,true_and]at e;obtain⟨⟨rfl,rfl⟩,⟨rfl,rfl⟩,rfl,rfl⟩:=e;exact⟨h2.ls,h3.ls⟩
theorem aeJ(M:oU S B t room disk TM)(u:Nat)(root er:Int)(r lo:Nat)(σ:Tp.dR)(v:Value)(n:Nd.Node)(i d:Nat)(iD:n.leaf=false)(hnk:n.keys.length+1=n.kids.length)(abk:∀k∈n.keys,k.size<=16)(hi:i<n.kids.length)(h1k:1<n.kids.length)(xq:NB n)
  (h3:(Tp.oO room disk σ n i d).1≠ .error 3) (w:World) (BQ:NF lo w v n) (zX:B<=lo) (ajI:lo<=w.heap.size) (h:On S B t u TM root er (r+6) σ w):
  Calls prog 187 #[.pointer (some ⟨u,0,none⟩),v, .int .i64 (i:Nat), .int .i64 (d:Nat)] w (Zd S B t u TM root er r lo (Tp.oO room disk σ n i d) w):=by
 obtain⟨o,ho⟩:=aJ (Tp.oO room disk σ n i d);rw[<-ho]at h3 ⊢
 have hd:d<24:=by
  by_cases hd:24<=d
  ·rw[ho]at h3;unfold Tp.oO at h3;rw[if_pos hd]at h3;exact absurd rfl h3
  ·omega
 have yh:∀j (hj:j<n.kids.length),n.kids.getD j 0=n.kids[j]:=λj hj=>by simp[List.getD,hj]
 obtain⟨kid,abl⟩:∃kid,σ.view disk n.kids[i]=some kid:=by
  cases hk:σ.view disk n.kids[i]with
  |some kid=>exact⟨kid,rfl⟩
  |none=>
   rw[ho]at h3;unfold Tp.oO at h3;rw[if_neg ak,yh i hi,hk]at h3;exact absurd rfl h3
 obtain⟨Ae,ce,Ai,ci,Ay,cy,rfl,q1,q2,q3⟩:=BQ;obtain⟨bi,oi,rfl,hbi,gi⟩:=q2.ls.int hi;obtain⟨YG,oy,rfl,VX, -⟩:=q3.ls.key (show 0<n.keys.length by omega);have BQ:NF lo w (dw n.leaf Ae n.ents.length ce (some ⟨bi,oi,none⟩) n.kids.length ci (some ⟨YG,oy,none⟩) n.keys.length cy) n:=⟨Ae,ce,_,ci,_,cy,rfl,q1,q2,q3⟩;have bD:=(aai w.heap.size w).alloc aK (.cells #[.bool n.leaf, .slice Ae n.ents.length ce, .slice (some ⟨bi,oi,none⟩) n.kids.length ci, .slice (some ⟨YG,oy,none⟩) n.keys.length cy] 188);have bK:=bD.alloc bD.size (.cells #[.bool false, .slice none 0 0, .slice none 0 0, .slice none 0 0] 188);have iM:=(aO.new w 188 #[.bool n.leaf, .slice Ae n.ents.length ce, .slice (some ⟨bi,oi,none⟩) n.kids.length ci, .slice (some ⟨YG,oy,none⟩) n.keys.length cy]).alloc (.cells #[.bool false, .slice none 0 0, .slice none 0 0, .slice none 0 0] 188);have uo:=aO.new (w.alloc (.cells #[.bool n.leaf, .slice Ae n.ents.length ce, .slice (some ⟨bi,oi,none⟩) n.kids.length ci, .slice (some ⟨YG,oy,none⟩) n.keys.length cy] 188)) 188 #[.bool false, .slice none 0 0, .slice none 0 0, .slice none 0 0];simp only[aad]at uo;have fG:=M.size h.tm;have hun:u<w.heap.size:=h.self.lt;have hH2:=(h.below M bD).below M (Below.alloc aU aK (.cells #[.bool false, .slice none 0 0, .slice none 0 0, .slice none 0 0] 188));have hN2:=NF.below BQ bK;unfold dw;have yY:∃w2,w2=(w.alloc (.cells #[.bool n.leaf, .slice Ae n.ents.length ce, .slice (some ⟨bi,oi,none⟩) n.kids.length ci, .slice (some ⟨YG,oy,none⟩) n.keys.length cy] 188)).alloc (.cells #[.bool false, .slice none 0 0, .slice none 0 0, .slice none 0 0] 188):=⟨_,rfl⟩;have Bz:((w.alloc (.cells #[.bool n.leaf, .slice Ae n.ents.length ce, .slice (some ⟨bi,oi,none⟩) n.kids.length ci, .slice (some ⟨YG,oy,none⟩) n.keys.length cy] 188)).alloc (.cells #[.bool false, .slice none 0 0, .slice none 0 0, .slice none 0 0] 188)).heap.size=w.heap.size+2:=by simp
 have HL:=ah (fun(id:Int) (n:Nd.Node) (r:Nat) (hv:σ.view disk id=some n) W hW=>Ea M u root er r σ id d n hv hd W hW);have Gt:n.kids.length<=100000:=xq.i;have g2:=iM.cell 2;have ln:=iM.lt;have gk:((w.alloc (.cells #[.bool n.leaf, .slice Ae n.ents.length ce, .slice (some ⟨bi,oi,none⟩) n.kids.length ci, .slice (some ⟨YG,oy,none⟩) n.keys.length cy] 188)).alloc (.cells #[.bool false, .slice none 0 0, .slice none 0 0, .slice none 0 0] 188)).cell? ⟨bi,oi+i,none⟩=some (.int .i64 n.kids[i]):=(bK.cell (p:=⟨bi,oi+i,none⟩) hbi).trans gi;have HM:=ah M;have aib:=ah abl;have RF:=ah hH2;have HNF:=ah hN2;have Og:=ah iM;have HBr:=ah uo;have qj:=ah bK;have HO:=ah ho;have H3:=ah h3;have HNB:=ah xq;have ZU:=ah yh;have HLF:=ah iD;have HNK:=ah hnk;have avO:=ah abk;have as7:(i:Int)<n.kids.length:=by omega
 clear h bD bK iM uo hH2 hN2 BQ q1 q2 q3 M ho h3 yh abl iD xq yY gi hnk abk;go_enter func187,ntmps187
 go_wp2_with fail
 generalize (w.alloc (.cells #[.bool n.leaf, .slice Ae n.ents.length ce, .slice (some ⟨bi,oi,none⟩) n.kids.length ci, .slice (some ⟨YG,oy,none⟩) n.keys.length cy] 188)).alloc (.cells #[.bool false, .slice none 0 0, .slice none 0 0, .slice none 0 0] 188)=w2 at*;refine aac (HL.out _ kid (r+4) aib _ RF) ?_;rintro e w3 ⟨vk,rfl,avP,aeK,nP⟩;have IZ:=nP.size;obtain⟨K1,k1,K2,k2,K3,k3,rfl,rk⟩:=avP;have hfk:=(HM.out.ht RF.out.tm aib).1;have Nj:=(aai w3.heap.size w3).alloc aK (.cells #[.bool kid.leaf, .slice K1 kid.ents.length k1, .slice K2 kid.kids.length k2, .slice K3 kid.keys.length k3] 188);have HKN:=ah (NF.below (lo:=w2.heap.size) (v:= .agg #[.bool kid.leaf, .slice K1 kid.ents.length k1, .slice K2 kid.kids.length k2, .slice K3 kid.keys.length k3]) ⟨K1,k1,K2,k2,K3,k3,rfl,rk⟩ Nj);have HSZ:=ah (FH _ kid _ HKN.out.ns (rV hfk));have hN3:=NF.below (NF.fr HNF nP (λk hk=>by have:=HM.out.low k hk;omega)) Nj;have HN3:=ah hN3;have sD:=ah (((Fr.of_below qj).trans nP).trans (.of_below Nj):Fr S w _);have QH:=ah (aeK.below HM Nj);have XA:=ah ((nP.blk Og (HM.out.far ak)).alloc (.cells #[.bool kid.leaf, .slice K1 kid.ents.length k1, .slice K2 kid.kids.length k2, .slice K3 kid.keys.length k3] 188));have aqs:=ah ((nP.blk HBr (HM.out.far ak)).alloc (.cells #[.bool kid.leaf, .slice K1 kid.ents.length k1, .slice K2 kid.kids.length k2, .slice K3 kid.keys.length k3] 188));have hza:(w3.alloc (.cells #[.bool kid.leaf, .slice K1 kid.ents.length k1, .slice K2 kid.kids.length k2, .slice K3 kid.keys.length k3] 188)).heap.size=w3.heap.size+1:=by simp
 unfold dw;clear hfk Nj rk aeK nP hN3 g2 gk ln;go_wp2_with fail
 generalize (w3.alloc (.cells #[.bool kid.leaf, .slice K1 kid.ents.length k1, .slice K2 kid.kids.length k2, .slice K3 kid.keys.length k3] 188))=w4 at*;refine HSZ.out.mono ?_;rintro e w5 ⟨rfl,lZ⟩;have PV:=lZ.size;have hN5:=NF.below HN3 lZ;have RZ:=hN5.kid;have BA:=ah hN5;have kE:=ah (sD.out.trans (.of_below lZ));have Df:=ah (QH.out.below HM lZ);have zH:=XA.out.below lZ XA.out.lt;have IQ:=aqs.out.below lZ aqs.out.lt;have NK:=ah zH;have aic:=ah IQ;have g0:=zH.cell 0;have g1:=zH.cell 1;have g2:=zH.cell 2;have g3:=zH.cell 3;have ln:=zH.lt;by_cases h80:80<=Nd.size kid
 ·have kW:o=(.ok n,σ):=by rw[HO.out];unfold Tp.oO;rw[if_neg ak,ZU.out i hi,aib.out];simp only;rw[if_pos h80]
  have pJ:=ah kW;have avQ:80<=(Nd.size kid:Int):=by omega
  have d0:=IQ.cell 0;have d1:=IQ.cell 1;have d2:=IQ.cell 2;have d3:=IQ.cell 3;have f0:=IQ.frozen 0;have f1:=IQ.frozen 1;have f2:=IQ.frozen 2;have f3:=IQ.frozen 3;have lr:=IQ.lt;generalize Nd.size kid=sz at*;clear h80 kW lZ hN5 zH IQ RZ;go_wp2
  try simp only[ac3,Exit.then]
  refine bodyPost_ret (bJ bY rfl rfl (aic.out.vI _ _ _ _) rfl) rfl ?_;exact zG HM kE (by rw[pJ.out];exact Df.out.less HM ak) aic ak ak ak (Fr.uP _ _ _ _) (NF.frP BA aic (Fr.uP _ _ _ _)) (.inl ⟨by rw[pJ.out],rfl⟩)
 ·have avQ:¬80<=(Nd.size kid:Int):=by omega
  obtain⟨a,b,hva,hvb,kW⟩:=Tp.Ut (room:=room) (disk:=disk) (σ:=σ) (n:=n) (i:=i) (d:=d) ak (by rw[ZU.out i hi];exact aib) h80 (by rw[<-HO.out];exact H3);rw[<-HO.out]at kW;obtain⟨Rx,MB⟩:=Tp.aeE (n:=n) hi h1k;obtain⟨j,hj⟩:=aJ (Tp.MG n i);rw[<-hj]at hva hvb kW Rx MB;clear hj;have hjk:j<n.keys.length:=by have:=HNK.out;omega
  have VE:j<n.kids.length:=by omega
  rw[ZU.out j VE]at hva;rw[ZU.out (j+1) Rx]at hvb;have gj:=RZ.1.int' VE;have gj1:=RZ.1.int' Rx;have bij:=RZ.1.2 ak;have aBU:bi<w5.heap.size:=by obtain⟨ad,e,h,_⟩:=bij;injection e with e;subst e;exact h
  have aBV:YG<w5.heap.size:=by
   obtain⟨ad,e,h,_⟩:=RZ.2.2 ak;injection e with e;subst e;exact h
  have aBW:(j:Int)<n.kids.length:=by omega
  have ayY:(j:Int)+1<n.kids.length:=by omega
  have aBX:(j:Int)<n.keys.length:=by omega
  have hzw:w.heap.size<=w5.heap.size:=by omega
  have ZV:=ah hva;have HVB:=ah hvb;have pJ:=ah kW;have HJK:=ah hjk;have HJ1:=ah Rx;generalize Nd.size kid=sz at*;clear h80 bij hva hvb kW hjk lZ hN5 zH IQ RZ;rcases MB with⟨hs,mW⟩ | ⟨hs,mW⟩
  case' inl=>
   have gq:((i:Int)==(n.kids.length:Int)-1)=true:=by rw[beq_iff_eq];omega
   have gi2:(i:Int)-1=((j:Nat):Int):=by omega
   clear hs mW;go_wp2_with fail
  case' inr=>
   have gq:((i:Int)==(n.kids.length:Int)-1)=false:=by rw[beq_eq_false_iff_ne];omega
   subst mW;clear hs;go_wp2_with fail
  all_goals
   refine aac (HL.out _ a (r+2) ZV _ Df) ?_;rintro e w6 ⟨va,rfl,na,on6,f6⟩;obtain⟨A1,a1,A2,a2,A3,a3,rfl,ra⟩:=na;have VF:=f6.size;have rO:=(aai w6.heap.size w6).alloc aK (.cells #[.bool a.leaf, .slice A1 a.ents.length a1, .slice A2 a.kids.length a2, .slice A3 a.keys.length a3] 188);have YH:=ah (NF.below (lo:=w5.heap.size) (v:= .agg #[.bool a.leaf, .slice A1 a.ents.length a1, .slice A2 a.kids.length a2, .slice A3 a.keys.length a3]) ⟨A1,a1,A2,a2,A3,a3,rfl,ra⟩ rO);have hN7:=NF.below (NF.fr BA f6 (λk hk=>by have:=HM.out.low k hk;omega)) rO;have hL7:=hN7.kid;have gj1:=hL7.1.int' HJ1;have ZW:=ah hN7;have abm:=ah (on6.below HM rO);have xA:=ah ((kE.out.trans f6).trans (.of_below rO));have XE:=(f6.blk NK (HM.out.far ak)).alloc (.cells #[.bool a.leaf, .slice A1 a.ents.length a1, .slice A2 a.kids.length a2, .slice A3 a.keys.length a3] 188);have avR:=ah ((f6.blk aic (HM.out.far ak)).alloc (.cells #[.bool a.leaf, .slice A1 a.ents.length a1, .slice A2 a.kids.length a2, .slice A3 a.keys.length a3] 188));have avS:=ah (aO.new w6 188 #[.bool a.leaf, .slice A1 a.ents.length a1, .slice A2 a.kids.length a2, .slice A3 a.keys.length a3]);have hz7:(w6.alloc (.cells #[.bool a.leaf, .slice A1 a.ents.length a1, .slice A2 a.kids.length a2, .slice A3 a.keys.length a3] 188)).heap.size=w6.heap.size+1:=by simp
   unfold dw;have g2:=XE.cell 2;have ln:=XE.lt;have amf:=ah XE;clear on6 f6 rO hN7 hL7 XE ra g0 g1 g3 gj;go_wp2_with fail
   refine aac (HL.out _ b r HVB _ abm) ?_;rintro e w8 ⟨vb,rfl,nb,on8,f8⟩;obtain⟨B1,b1,B2,b2,B3,b3,rfl,rb⟩:=nb;have hz8:=f8.size;have rJ:=(aai w8.heap.size w8).alloc aK (.cells #[.bool b.leaf, .slice B1 b.ents.length b1, .slice B2 b.kids.length b2, .slice B3 b.keys.length b3] 188);have hz9:(w8.alloc (.cells #[.bool b.leaf, .slice B1 b.ents.length b1, .slice B2 b.kids.length b2, .slice B3 b.keys.length b3] 188)).heap.size=w8.heap.size+1:=by simp
   have HB9:=ah (NF.below (lo:=w6.heap.size) (v:= .agg #[.bool b.leaf, .slice B1 b.ents.length b1, .slice B2 b.kids.length b2, .slice B3 b.keys.length b3]) ⟨B1,b1,B2,b2,B3,b3,rfl,LO.lower rb.1 ak,LO.lower rb.2.1 ak,LO.lower rb.2.2 ak⟩ rJ);have HA9:=ah (NF.below (NF.fr YH f8 (λk hk=>by have:=HM.out.low k hk;omega)) rJ);have hN9:=NF.below (NF.fr ZW f8 (λk hk=>by have:=HM.out.low k hk;omega)) rJ;have hL9:=hN9.kid;have gky:=hL9.2.key' HJK.out;have HN9:=ah hN9;have aie:=ah (on8.below HM rJ);have HF9:=ah ((xA.out.trans f8).trans (.of_below rJ));have XF:=(f8.blk amf (HM.out.far ak)).alloc (.cells #[.bool b.leaf, .slice B1 b.ents.length b1, .slice B2 b.kids.length b2, .slice B3 b.keys.length b3] 188);have avT:=ah ((f8.blk avR (HM.out.far ak)).alloc (.cells #[.bool b.leaf, .slice B1 b.ents.length b1, .slice B2 b.kids.length b2, .slice B3 b.keys.length b3] 188));have XG:=(f8.blk avS (HM.out.far ak)).alloc (.cells #[.bool b.leaf, .slice B1 b.ents.length b1, .slice B2 b.kids.length b2, .slice B3 b.keys.length b3] 188);have XH:=aO.new w8 188 #[.bool b.leaf, .slice B1 b.ents.length b1, .slice B2 b.kids.length b2, .slice B3 b.keys.length b3];have hfa:=(HM.out.ht Df.out.tm ZV).1;have I4:=(HM.out.ht abm.out.tm HVB).1;unfold dw;generalize hw9:(w8.alloc (.cells #[.bool b.leaf, .slice B1 b.ents.length b1, .slice B2 b.kids.length b2, .slice B3 b.keys.length b3] 188))=w9 at*;have g0:=XF.cell 0;have g1:=XF.cell 1;have g2:=XF.cell 2;have g3:=XF.cell 3;have ln:=XF.lt;have p0:=XG.cell 0;have p1:=XG.cell 1;have p2:=XG.cell 2;have p3:=XG.cell 3;have la:=XG.lt;have q0:=XH.cell 0;have q1:=XH.cell 1;have q2:=XH.cell 2;have q3:=XH.cell 3;have lb:=XH.lt;have lby:YG<w9.heap.size:=by omega
   have hkg:n.keys.getD j ⟨#[]⟩=n.keys[j]'HJK.out:=by have:=HJK.out;simp[List.getD,this]
   have abk:=avO.out _ (acT HJK.out);obtain⟨ky,hky⟩:=aJ (n.keys[j]'HJK.out);rw[<-hky]at gky hkg abk;have avU:=ah abk;have HKG:=ah hkg;have aqt:=ah XF;have aqu:=ah XG;have aqv:=ah XH;have HFA:=ah hfa;have HFB:=ah I4;have HJN:=ah (λW (hW:Below w9.heap.size w9 W)=>aeI (.agg #[.bool a.leaf, .slice A1 a.ents.length a1, .slice A2 a.kids.length a2, .slice A3 a.keys.length a3]) (.agg #[.bool b.leaf, .slice B1 b.ents.length b1, .slice B2 b.kids.length b2, .slice B3 b.keys.length b3]) a b ky W (NF.below HA9 hW).ns (NF.below HB9 hW).ns (rV HFA) (rV HFB));clear on8 f8 rJ hN9 hL9 XF XG XH rb hfa I4 hkg hky abk;go_wp2_with fail
   try simp only[hw9]
   clear hw9
   refine tH (base:=w9.heap.size) 9 (λu=>⟨#[_,_,_,_,_,_,_,_,_,_,_,_,_,_,u 8,_,_,_,_,_,_,_,_,_,_,_,_,_,_,_,_,_,_,_,_,_,_,_,_,_,_,_,_,_,_,_,_,_,_,_,_,_,_,_,_,_,_,_,_,_,_,_,_,_,_,_,_,_,_,_,_,_,_,_,_,u 0,u 1,u 2,u 3,u 4,u 5,u 6,u 7,_,_,_,_,_,_,_,_,_,_,_,_,_,_,_,_,_,_,_,_,_,_,_,_,_,_,_,_,_,_,_,_,_,_,_,_,_,_,_,_,_,_,_,_],_⟩)
    [dF (.agg #[.bool a.leaf, .slice A1 a.ents.length a1, .slice A2 a.kids.length a2, .slice A3 a.keys.length a3]),jH w.heap.size 3,dF (.slice (some ⟨YG,oy,none⟩) n.keys.length cy),dF (.int .i64 (j:Nat)),dF (.pointer (some ⟨YG,oy+j,none⟩)),dF (.string ky),dF (.agg #[.bool b.leaf, .slice B1 b.ents.length b1, .slice B2 b.kids.length b2, .slice B3 b.keys.length b3]),Is.node2 _ w9.heap.size aK (Nd.join a ky b),Is.box _]
    aV rfl aV aV aV [] rfl aK aH aH ⟨λ_=>undef,rfl⟩ ?_ ?_
   ·intro i o hi9 ho uv W hf hold aj;have I4:Below w9.heap.size w9 W:=hf.low aK (λk a=>by simp at a);have hAW:=aqu.out.below I4 la;have E8:=aqv.out.below I4 lb;have hNW:=aqt.out.below I4 ln;have cW:=hNW.cell 3
    match i,ho with
    |0,ho=>obtain rfl:=aA ho;exact Does.val (sK bY rfl rfl hAW rfl) ⟨rfl,rfl,aX⟩
    |1,ho=>obtain rfl:=aA ho;exact Does.val (jI rfl rfl) ⟨rfl,rfl,aX⟩
    |2,ho=>obtain rfl:=aA ho;exact Does.val (fK rfl (aj 1 rfl) cW) ⟨rfl,rfl,aX⟩
    |3,ho=>obtain rfl:=aA ho;exact Does.val (bg rfl rfl) ⟨rfl,rfl,aX⟩
    |4,ho=>obtain rfl:=aA ho;exact Does.val (J5 rfl (aj 2 rfl) (aj 3 rfl) HJK.out) ⟨rfl,rfl,aX⟩
    |5,ho=>obtain rfl:=aA ho;exact Does.val (J4 rfl (aj 4 rfl) ((I4.cell (p:=⟨YG,oy+j,none⟩) lby).trans gky)) ⟨rfl,rfl,aX⟩
    |6,ho=>obtain rfl:=aA ho;exact Does.val (sK bY rfl rfl E8 rfl) ⟨rfl,rfl,aX⟩
    |7,ho=>
     obtain rfl:=aA ho;refine Does.call (lQ aeF rfl (aj 0 rfl) (aj 5 rfl) (aj 6 rfl)) (aac (HJN.out W I4) ?_);rintro e w' ⟨vj,rfl,nj,bj⟩;exact⟨vj,rfl,rfl,nj.lower I4.size, .of_below bj⟩
    |8,ho=>obtain rfl:=aA ho;exact Does.val (Xh rfl) ⟨rfl,⟨W.heap.size,I4.size,rfl,aO.new _ _ _⟩, .of_below (aU.alloc aK _)⟩
    |n+9,ho=>omega
   intro o ho uv W hf au;obtain rfl:=aA ho;have I4:Below w9.heap.size w9 W:=hf.low aK (λk a=>by simp at a);obtain⟨g14,aBY,e8,TP⟩:=au 8 ay;obtain⟨J1,j1,J2,j2,J3,j3,e7,rj⟩:=au 7 ay;refine jq rfl e8 e7 ⟨_,_,_,_,_,_,_,_,_,_,rfl⟩ TP rfl λxB lS IL=> ?_;have amg:=IL.size;have aqw:=I4.size;have aBZ:=lS.lt;have aqx:=ah (NF.frP (v:=dw (Nd.join a ky b).leaf J1 (Nd.join a ky b).ents.length j1 J2 (Nd.join a ky b).kids.length j2 J3 (Nd.join a ky b).keys.length j3) ⟨J1,j1,J2,j2,J3,j3,rfl,rj⟩ TP IL);have ML:∀ (k:Nat) (ty:TypeId) (cs:Array Value),aO w9 k ty cs->aO xB k ty cs:=λk ty cs h=>IL.blk (h.below I4 h.lt) (λe=>by have:=h.lt;omega);have KG:=ML _ _ _ aqt;have aeL:=ML _ _ _ aqu;have aeM:=ML _ _ _ aqv;have uQ:=ah (ML _ _ _ avT);have aeN:=ah ((aie.out.below HM I4).own HM IL TP ak ak ay ay ay ay);have aeO:=ah (Fr.old (S':=λk=>S k\/k=g14) ((HF9.out.trans (.of_below I4)).more (λ_=> .inl) |>.trans (IL.more λ_=> .inr)) (λk hk=>hk.imp_right λe=>by omega));have amh:=NF.frP (NF.below HN9 I4) TP IL;have ami:=amh.kid;have gj:=ami.1.int' VE;have gj1:=ami.1.int' HJ1;have amj:=ah amh;simp only[e8];clear au e7 e8 rj I4 IL ML amh ami TP p0 p1 p2 p3 q0 q1 q2 q3 g0 g1 g2 g3 hf aqw;have g0:=KG.cell 0;have g1:=KG.cell 1;have g2:=KG.cell 2;have g3:=KG.cell 3;have ln:=KG.lt;have p0:=aeL.cell 0;have la:=aeL.lt;have q0:=aeM.cell 0;have lb:=aeM.lt;have s0:=lS.cell 0;have s1:=lS.cell 1;have s2:=lS.cell 2;have s3:=lS.cell 3;have d0:=uQ.out.cell 0;have d1:=uQ.out.cell 1;have d2:=uQ.out.cell 2;have d3:=uQ.out.cell 3;have f0:=uQ.out.frozen 0;have f1:=uQ.out.frozen 1;have f2:=uQ.out.frozen 2;have f3:=uQ.out.frozen 3;have lr:=uQ.out.lt;have ako:=ah KG;have QI:=ah lS;clear KG aeL aeM lS;by_cases hl:a.leaf=b.leaf
   case' neg=>
    have RG:(a.leaf != b.leaf)=true:=by simpa using hl
    have dM:o=(.ok n,σ):=by rw[pJ.out];unfold Tp.Ht;rw[if_pos (.inl RG)]
    have fE:=ah dM
    have h4:(a.leaf=true/\b.leaf=false)\/(a.leaf=false/\b.leaf=true):=by
     cases h1:a.leaf<;>cases h2:b.leaf<;>simp_all
    clear hl dM RG;rcases h4 with⟨h4,h5⟩ | ⟨h4,h5⟩
    all_goals
     rw[h4]at p0;rw[h5]at q0;clear h4 h5;go_wp2
     try simp only[ac3,Exit.then]
     refine bodyPost_ret (bJ bY rfl rfl (uQ.out.vI _ _ _ _) rfl) rfl ?_;exact zG HM aeO (by rw[fE.out];exact aeN) uQ ak ak ak (Fr.uP _ _ _ _) (NF.frP amj uQ (Fr.uP _ _ _ _)) (.inl ⟨by rw[fE.out],rfl⟩)
   have RG:(a.leaf != b.leaf)=false:=by simpa using hl
   rw[hl]at p0;have HLN:=ah RG;have VZ:=aia HFA HFB avU;have VI:=ah (wG _ (Nd.join a ky b) xB aqx.out.ns VZ);unfold dw at VI
   cases iE:Nd.fits (Nd.join a ky b)with
   |false=>
    rw[iE]at VI;have dM:o=(.ok n,σ):=by rw[pJ.out];unfold Tp.Ht;rw[if_pos (.inr (by rw[HKG.out];exact iE))]
    have fE:=ah dM;clear hl dM VZ iE RG;go_wp2_with fail
    refine VI.out.mono ?_;rintro e w12 ⟨rfl,lF⟩;have avV:=lF.size;have aeP:=ah (aeN.out.below HM lF);have aeQ:=ah (aeO.out.trans (.of_below lF));have aeR:=ah (NF.below amj lF);have uS:=uQ.out.below lF lr;have zI:=ako.out.below lF ln;have g0:=zI.cell 0;have g1:=zI.cell 1;have g2:=zI.cell 2;have g3:=zI.cell 3;have ln:=zI.lt;have d0:=uS.cell 0;have d1:=uS.cell 1;have d2:=uS.cell 2;have d3:=uS.cell 3;have f0:=uS.frozen 0;have f1:=uS.frozen 1;have f2:=uS.frozen 2;have f3:=uS.frozen 3;have lr:=uS.lt;have Uu:=ah uS;clear lF uS zI;go_wp2
    try simp only[ac3,Exit.then]
    refine bodyPost_ret (bJ bY rfl rfl (Uu.out.vI _ _ _ _) rfl) rfl ?_;exact zG HM aeQ (by rw[fE.out];exact aeP) Uu ak ak ak (Fr.uP _ _ _ _) (NF.frP aeR Uu (Fr.uP _ _ _ _)) (.inl ⟨by rw[fE.out],rfl⟩)
   |true=>
    rw[iE]at VI;have dM:o=Tp.qW n j (Tp.ku room σ (n.kids[j]'VE) (Nd.join a ky b)):=by rw[pJ.out,abj HKG.out RG iE,ZU.out j VE]
    have fE:=ah dM;have vK:=ah iE;clear hl dM VZ iE RG;go_wp2_with fail
    refine VI.out.mono ?_;rintro e w12 ⟨rfl,lF⟩;have avV:=lF.size;have aeP:=ah (aeN.out.below HM lF);have aeQ:=ah (aeO.out.trans (.of_below lF));have amk:=NF.below amj lF;have aqy:=amk.kid;have gj:=aqy.1.int' VE;have aeR:=ah amk;have avW:=ah (NF.below aqx lF);have uS:=uQ.out.below lF lr;have zI:=ako.out.below lF ln;have aqz:=ah (QI.out.below lF QI.out.lt);have g2:=zI.cell 2;have ln:=zI.lt;have Uu:=ah uS;have aqA:=ah zI;have lbi:bi<w12.heap.size:=by omega
    have lby:YG<w12.heap.size:=by omega
    clear lF uS zI amk aqy g0 g1 g3 d0 d1 d2 d3 f0 f1 f2 f3 s0 s1 s2 s3 lr lb la p0 q0;go_wp2_with fail
    obtain⟨os,hos⟩:=aJ (Tp.ku room σ (n.kids[j]'VE) (Nd.join a ky b));have akp:=(HM.out.ht Df.out.tm ZV).2;have Vy:=Uk HM u root er r σ (n.kids[j]'VE) akp (.agg #[.bool (Nd.join a ky b).leaf, .slice J1 (Nd.join a ky b).ents.length j1, .slice J2 (Nd.join a ky b).kids.length j2, .slice J3 (Nd.join a ky b).keys.length j3]) (Nd.join a ky b) vK w12.drew (NF.below avW (aU.drew)).ns (aeP.out.below HM (aU.drew));rw[<-hos]at Vy;have akq:=ah (show o=Tp.qW n j os from by rw[fE.out,hos]);have Vy:=ah Vy;clear hos akp
    refine BJ 7 (λu=>⟨#[_,_,_,_,_,_,_,_,_,_,_,u 12,_,_,_,u 11,_,_,_,_,_,_,_,_,_,_,_,_,_,_,_,_,_,_,_,_,_,_,_,_,_,_,_,_,_,_,_,_,_,_,_,_,_,_,_,_,_,_,_,_,_,_,_,_,_,_,_,_,_,_,_,_,_,_,_,_,_,_,_,_,_,_,_,_,_,_,_,_,_,_,_,_,_,_,u 8,u 0,u 1,u 2,u 3,u 4,u 5,u 6,u 7,u 9,u 10,_,_,_,_,_,_,_,_,_,_,_,_,_,_,_,_,_,_,_,_,_,_],_⟩)
     (λv i=> [Value.pointer (some ⟨u,0,none⟩), .pointer (some ⟨w.heap.size,2,none⟩), .slice (some ⟨bi,oi,none⟩) n.kids.length ci, .int .i64 (j:Nat), .pointer (some ⟨bi,oi+j,none⟩), .int .i64 (n.kids[j]'VE), .agg #[.bool (Nd.join a ky b).leaf, .slice J1 (Nd.join a ky b).ents.length j1, .slice J2 (Nd.join a ky b).kids.length j2, .slice J3 (Nd.join a ky b).keys.length j3],v,v,Y5 v 0,Y5 v 1,Y5 v 0,Y5 v 1].getD i undef)
     (λv W=>Zc S B t u TM root er r os w12.drew (.returned v) W)
     aV ay aV aV aV aV (λv v' i hi=>by
      match i,hi with
      |0,_|1,_|2,_|3,_|4,_|5,_|6,_=>rfl
      |n+7,h=>omega) (λ_=>rfl) ⟨λi=>if i=12 then .int .i64 0 else undef,rfl⟩ ?_ ?_ ?_
    ·intro i o hi7 ho uu v W EJ Ip aj
     match i,ho with
     |0,ho|3,ho=>
      obtain rfl:=aA ho;exact⟨.inl (bg rfl rfl),rfl⟩
     |1,ho=>
      obtain rfl:=aA ho;exact⟨.inl (jv rfl rfl),rfl⟩
     |2,ho=>
      obtain rfl:=aA ho;obtain rfl:=EJ ay;exact⟨.inl (fF rfl (aj 1 rfl) g2),rfl⟩
     |4,ho=>
      obtain rfl:=aA ho;exact⟨.inl (CV rfl (aj 2 rfl) (aj 3 rfl) VE),rfl⟩
     |5,ho=>
      obtain rfl:=aA ho;obtain rfl:=EJ ay;exact⟨.inl (jS rfl (aj 4 rfl) gj),rfl⟩
     |6,ho=>
      obtain rfl:=aA ho;obtain rfl:=EJ ay;exact⟨.inl (sK bY rfl rfl aqz rfl),rfl⟩
     |7,ho=>exact absurd rfl hi7
     |8,ho=>
      obtain rfl:=aA ho;exact⟨.inl (bg rfl (aj 7 rfl)),rfl⟩
     |9,ho=>
      obtain rfl:=aA ho;obtain⟨p,x,e, -⟩:=Ip ay;injection e with e;subst e;exact⟨.inl (rQ rfl (aj 8 rfl)),rfl⟩
     |10,ho=>
      obtain rfl:=aA ho;obtain⟨p,x,e, -⟩:=Ip ay;injection e with e;subst e;exact⟨.inl (rU rfl (aj 8 rfl)),rfl⟩
     |11,ho=>
      obtain rfl:=aA ho;exact⟨.inl (jo rfl (aj 9 rfl)),rfl⟩
     |12,ho=>
      obtain rfl:=aA ho;exact⟨.inl (jo rfl (aj 10 rfl)),rfl⟩
     |n+13,ho=>exact absurd ho aH
    ·intro o ho uu v aj;obtain rfl:=aA ho;refine⟨_,_,lQ aeG rfl (aj 0 ay) (aj 5 ay) (aj 6 ay),aac Vy ?_⟩;rintro e w' h;obtain⟨p,x,rfl,h⟩:=h;exact⟨_,rfl,⟨p,x,rfl,h⟩,rfl⟩
    ·intro uu v W hR au;obtain⟨pg,x,e,gJ,xw,dK⟩:=hR;injection e with e;subst e;have e11:=au 11 ay;have e12:=au 12 ay;have aml:uu 11= .int .i64 pg:=e11;have amm:uu 12= .int .i64 x:=e12;simp only[aml,amm];have amn:=(aeQ.out.trans (.of_below ((aai w12.heap.size w12).drew))).trans dK;have aB0:w12.heap.size<=W.heap.size:=dK.size;have aqB:=ah amn;have aeS:=ah xw;have agL:Fr S w12 W:=⟨dK.os,dK.tape,dK.output,dK.size,dK.block⟩;have aif:=NF.fr aeR agL (λk hk=>by have:=HM.out.low k hk;omega);have aqC:=ah aif;have amo:=aif.kid;have gj1:=amo.1.int' HJ1;have Hu:=agL.blk aqA (HM.out.far ak);have yE:=agL.blk Uu (HM.out.far ak);have Ze:=xw.self;have g0:=Hu.cell 0;have g1:=Hu.cell 1;have g2:=Hu.cell 2;have g3:=Hu.cell 3;have ln:=Hu.lt;have d0:=yE.cell 0;have d1:=yE.cell 1;have d2:=yE.cell 2;have d3:=yE.cell 3;have f0:=yE.frozen 0;have f1:=yE.frozen 1;have f2:=yE.frozen 2;have f3:=yE.frozen 3;have lr:=yE.lt;have tc0:=Ze.cell 0;have avX:=Ze.lt;have aqD:=ah Hu;have Zf:=ah yE;rcases gJ with⟨jA,rfl,aB1⟩ | ⟨kQ,rfl⟩
     case' inr=>
      have dM:o=(.error 2,os.2):=by rw[akq.out,Tp.QG kQ]
      have HE:=ah dM;clear dM kQ au e11 e12 aml amm amn dK agL xw aif amo Hu yE Ze gj;go_wp2
      try simp only[ac3,Exit.then]
      refine bodyPost_ret (bJ bY rfl rfl (Zf.out.vI _ _ _ _) rfl) rfl ?_;exact zG HM aqB (by rw[HE.out];exact aeS) Zf ak ak ak (Fr.uP _ _ _ _) (NF.frP aqC Zf (Fr.uP _ _ _ _)) (.inr ⟨by rw[HE.out],rfl⟩)
     have dM:o=(.ok (Nd.swap n j (j+2) [pg] []),Tp.iK os.2 (n.kids[j+1]'HJ1.out)):=by rw[akq.out,Tp.Us jA,ZU.out (j+1) HJ1.out]
     have HE:=ah dM;clear dM jA au e11 e12 aml amm amn dK agL xw aif amo Hu yE Ze gj;go_wp2_with fail
     have aqE:=(HM.out.ht abm.out.tm HVB).2;have as9:IntKind.i64.wrap ((j:Int)+1)=(((j+1:Nat)):Int):=by rw[show((j+1:Nat):Int)=(j:Int)+1 by omega];exact IntWalk.i64_in _ ak
     have HDR:=ah (λW' (hW:TM r os.2 W')=>HM.out.drop (n.kids[j+1]'HJ1.out) hW aqE)
     refine BJ 10 (λuu=>⟨#[_,_,_,_,_,_,_,_,_,_,_,_,_,_,_,_,_,_,_,_,_,_,_,_,_,_,_,_,_,_,_,_,_,_,_,_,_,_,_,_,_,_,_,_,_,_,_,_,_,_,_,_,_,_,_,_,_,_,_,_,_,_,_,_,_,_,_,_,_,_,_,_,_,_,_,_,_,_,_,_,_,_,_,_,_,_,_,_,_,_,_,_,_,_,_,_,_,_,_,_,_,_,_,_,_,_,_,_,_,uu 0,uu 1,uu 2,uu 3,uu 4,uu 5,uu 6,uu 7,uu 8,uu 9,uu 10,_,_,_,_,_,_,_],_⟩)
      (λv i=> [Value.pointer (some ⟨u,0,none⟩), .pointer (some ⟨u,0,none⟩), .pointer (some ⟨u,0,none⟩), .pointer (some ⟨t,0,none⟩), .pointer (some ⟨w.heap.size,2,none⟩), .slice (some ⟨bi,oi,none⟩) n.kids.length ci, .int .i64 (j:Nat), .int .i64 ((j+1:Nat):Int), .pointer (some ⟨bi,oi+(j+1),none⟩), .int .i64 (n.kids[j+1]'HJ1.out),v].getD i undef)
      (λv W'=>v= .tuple #[]/\TM r (Tp.iK os.2 (n.kids[j+1]'HJ1.out)) W'/\Fr S W.drew W')
      aV ay aV aV aV aV (λv v' i hi=>by
       match i,hi with
       |0,_|1,_|2,_|3,_|4,_|5,_|6,_|7,_|8,_|9,_=>rfl
       |n+10,h=>omega) (λ_=>rfl) ⟨λ_=>undef,rfl⟩ ?_ ?_ ?_
     ·intro i o hi7 ho uu v W' EJ Ip aj
      match i,ho with
      |0,ho|6,ho=>
       obtain rfl:=aA ho;exact⟨.inl (bg rfl rfl),rfl⟩
      |1,ho=>
       obtain rfl:=aA ho;exact⟨.inl (jK rfl (aj 0 rfl)),rfl⟩
      |2,ho=>
       obtain rfl:=aA ho;exact⟨.inl (ahN rfl (aj 1 rfl)),rfl⟩
      |3,ho=>
       obtain rfl:=aA ho;obtain rfl:=EJ ay;exact⟨.inl (ad6 rfl (aj 2 rfl) tc0),rfl⟩
      |4,ho=>
       obtain rfl:=aA ho;exact⟨.inl (jv rfl rfl),rfl⟩
      |5,ho=>
       obtain rfl:=aA ho;obtain rfl:=EJ ay;exact⟨.inl (fF rfl (aj 4 rfl) g2),rfl⟩
      |7,ho=>
       obtain rfl:=aA ho
       exact⟨.inl (by
        show _=Result.ok (Next.value (.int .i64 ((j+1:Nat):Int))) _;rw[<-as9]
        exact FN (i:=(j:Int)) (j:=1) rfl (aj 6 rfl) rfl),rfl⟩
      |8,ho=>
       obtain rfl:=aA ho;exact⟨.inl (CV rfl (aj 5 rfl) (aj 7 rfl) HJ1),rfl⟩
      |9,ho=>
       obtain rfl:=aA ho;obtain rfl:=EJ ay;exact⟨.inl (jS rfl (aj 8 rfl) gj1),rfl⟩
      |10,ho=>exact absurd rfl hi7
      |n+11,ho=>exact absurd ho aH
     ·intro o ho uu v aj;obtain rfl:=aA ho;refine⟨_,_,bV aeH rfl (aj 3 ay) (aj 9 ay),aac (HDR.out W.drew (aeS.out.below HM (aU.drew)).tm) ?_⟩;rintro e w' ⟨rfl,h1,h2⟩;exact⟨_,rfl,⟨rfl,h1,h2⟩,rfl⟩
     ·intro uu v W14 hR au;obtain⟨rfl,aqF,zJ⟩:=hR;have Hw:=(aeS.out.below HM (aU.drew)).step HM aqF zJ;have O8:Fr S W W14:=⟨zJ.os,zJ.tape,zJ.output,zJ.size,zJ.block⟩;have aqG:=O8.size;have aqH:=NF.fr aqC O8 (λk hk=>by have:=HM.out.low k hk;omega);have KH:=O8.blk aqD (HM.out.far ak);have akr:=O8.blk Zf (HM.out.far ak);have Uw:=ah Hw;have aeT:=ah (aqB.out.trans O8);have avY:=ah aqH;have ayZ:=ah KH;have aqI:=ah akr;have g0:=KH.cell 0;have g1:=KH.cell 1;have g2:=KH.cell 2;have g3:=KH.cell 3;have ln:=KH.lt;clear au aqF zJ O8 Hw aqH KH akr as9 aqE gj1 tc0 avX d0 d1 d2 d3 f0 f1 f2 f3 lr;have Yy:=(aai W14.heap.size W14).alloc aK (.cells #[.int .i64 pg] 3);have Dq:LO fZ 3 (W14.alloc (.cells #[.int .i64 pg] 3)) W14.heap.size (.slice (some ⟨W14.heap.size,0,none⟩) 1 1) [pg]:=LO.one rfl rfl (aO.new _ _ _) aK;have agM:=swap_any (dw n.leaf Ae n.ents.length ce (some ⟨bi,oi,none⟩) n.kids.length ci (some ⟨YG,oy,none⟩) n.keys.length cy) n (some ⟨W14.heap.size,0,none⟩) none 1 0 j (j+2) [pg] [] HLF ak (by have:=HJ1.out;omega) HNK rfl _ (NF.below avY Yy).ns HNB (LO.sv (c:=1) (n:=1) Dq) ⟨LS.nil_,by simp,λ_=>rfl⟩ aH;rw[show(((j+2:Nat)):Int)=(j:Int)+2 by omega]at agM;have HSW:=ah agM;have aqJ:=ah (Uw.out.below HM Yy);have avZ:=ah (aeT.out.trans (.of_below Yy));have aks:=ah (aqI.out.alloc (.cells #[.int .i64 pg] 3));unfold dw at HSW;clear Yy Dq agM;go_wp2_with fail
      refine HSW.out.mono ?_;rintro e w16 ⟨vs,rfl,BQ,agN⟩;have av1:=agN.size;simp only[aad]at av1;obtain⟨T1,t1,T2,t2,T3,t3,rfl,rt⟩:=BQ;have HNS:=ah (NF.lower (lo':=lo) (v:=dw (Nd.swap n j (j+2) [pg] []).leaf T1 (Nd.swap n j (j+2) [pg] []).ents.length t1 T2 (Nd.swap n j (j+2) [pg] []).kids.length t2 T3 (Nd.swap n j (j+2) [pg] []).keys.length t3) ⟨T1,t1,T2,t2,T3,t3,rfl,rt⟩ (by simp;omega));have aqK:=ah (aqJ.out.below HM agN);have av2:=ah (avZ.out.trans (.of_below agN));have zK:=aks.out.below agN aks.out.lt;have d0:=zK.cell 0;have d1:=zK.cell 1;have d2:=zK.cell 2;have d3:=zK.cell 3;have f0:=zK.frozen 0;have f1:=zK.frozen 1;have f2:=zK.frozen 2;have f3:=zK.frozen 3;have lr:=zK.lt;have aeU:=ah zK;unfold dw;generalize Nd.swap n j (j+2) [pg] []=ns at*;clear agN zK rt g0 g1 g2 g3;go_wp2
      try simp only[ac3,Exit.then]
      refine bodyPost_ret (bJ bY rfl rfl (aeU.out.vI _ _ _ _) rfl) rfl ?_;exact zG HM av2 (by rw[HE.out];exact aqK) aeU ak ak ak (Fr.uP _ _ _ _) (NF.frP HNS aeU (Fr.uP _ _ _ _)) (.inl ⟨by rw[HE.out],rfl⟩)
end
end Go.Proofs.YtadnmegdbllaoaaGreatDoor
namespace Tp
open Nd En
def xQ(room:Int)(id:Int)(q:Except Int Node × dR):Except Int Part × dR:=match q with
 |(.error e,σ2)=>(.error e,σ2)
 |(.ok n2,σ2)=>cO room (iZ n2) σ2 id n2
theorem Hy{room id:Int}{q:Except Int Node × dR}{e:Int}(h:q.1= .error e):xQ room id q=(.error e,q.2):=by
 obtain⟨x,σ⟩:=q;simp only at h;subst h;rfl
theorem KI{room id:Int}{q:Except Int Node × dR}{n:Node}(h:q.1= .ok n):xQ room id q=cO room (iZ n) q.2 id n:=by
 obtain⟨x,σ⟩:=q;simp only at h;subst h;rfl
def QJ(room:Int)(disk:iW)(id:Int)(n:Node)(i d:Nat)(q:Except Int Part × dR):Except Int Part × dR:=match q with
 |(.error e,σ1)=>(.error e,σ1)
 |(.ok p,σ1)=>xQ room id (kX room disk p σ1 (swap n i (i+1) p.1 p.2) i d)
theorem KJ{room id:Int}{disk:iW}{n:Node}{i d:Nat}{q:Except Int Part × dR}{e:Int}(h:q.1= .error e):QJ room disk id n i d q=(.error e,q.2):=by
 obtain⟨x,σ⟩:=q;simp only at h;subst h;rfl
theorem abn{room id:Int}{disk:iW}{n:Node}{i d:Nat}{q:Except Int Part × dR}{p:Part}(h:q.1= .ok p):QJ room disk id n i d q=xQ room id (kX room disk p q.2 (swap n i (i+1) p.1 p.2) i d):=by
 obtain⟨x,σ⟩:=q;simp only at h;subst h;rfl
section
variable {room:Int}{disk:iW}{g:List bT->List bT}{key:Str}{f:Nat}{σ:dR}{id:Int}
theorem QK{n:Node}(hv:σ.view disk id=some n)(hl:n.leaf=true):iU room disk g key (f+1) σ id=cO room (iZ (bU (g n.ents))) σ id (bU (g n.ents)):=by
 rw[iU,hv];simp only;rw[if_pos hl]
theorem NP{n:Node}(hv:σ.view disk id=some n)(hl:n.leaf=false):iU room disk g key (f+1) σ id=QJ room disk id n (child n.keys key) (24-f) (iU room disk g key f σ (n.kids.getD (child n.keys key) 0)):=by
 rw[iU,hv];simp only;rw[if_neg (by rw[hl];simp)]
 cases iU room disk g key f σ (n.kids.getD (child n.keys key) 0)with
 |mk q σ1=>
  cases q with
  |error e=>rfl
  |ok p=>
   simp only;show _=xQ room id (kX room disk p σ1 (swap n (child n.keys key) (child n.keys key+1) p.1 p.2) (child n.keys key) (24-f))
   cases kX room disk p σ1 (swap n (child n.keys key) (child n.keys key+1) p.1 p.2) (child n.keys key) (24-f)with
   |mk q2 σ2=>cases q2<;>rfl
theorem QL(h3:(iU room disk g key (f+1) σ id).1≠ .error 3):∃n,σ.view disk id=some n:=by
 cases hv:σ.view disk id with
 |some n=>exact⟨n,rfl⟩
 |none=>rw[iU,hv]at h3;exact absurd rfl h3
end
theorem KL{n:Node}{p:Part}{i L:Nat}(hf:fits n=true)(hl:n.leaf=false)(hi:i<n.kids.length)(hp:PB p L):
  swap n i (i+1) p.1 p.2=aN (n.kids.take i++p.1++n.kids.drop (i+1)) (n.keys.take (if p.1.length=0/\0<i then i-1 else i)++p.2++n.keys.drop (if p.1.length=0/\i=0 then min (i+1) n.keys.length else i+1-1))/\
  (swap n i (i+1) p.1 p.2).kids.length=n.kids.length-1+p.1.length/\((swap n i (i+1) p.1 p.2).keys.length+1=(swap n i (i+1) p.1 p.2).kids.length\/(swap n i (i+1) p.1 p.2).kids.length=0/\(swap n i (i+1) p.1 p.2).keys.length=0)/\
  (∀k∈(swap n i (i+1) p.1 p.2).keys,k.size<=16)/\n.kids.length<=48/\n.keys.length+1=n.kids.length:=by
 obtain⟨hr,hs⟩:=eP.1 hf;obtain⟨leaf,ents,kids,keys⟩:=n;obtain rfl:leaf=false:=hl;obtain⟨rfl,r2,r3,r4⟩:=dV.1 hr;have hs:4+bH keys<=240:=hs;have Gt:=Ak keys;have hm:=((oK keys).1 r4).1;simp only at hi;have hpk:=hp.keys
 have e:swap ⟨false, [],kids,keys⟩ i (i+1) p.1 p.2=aN (kids.take i++p.1++kids.drop (i+1)) (keys.take (if p.1.length=0/\0<i then i-1 else i)++p.2++keys.drop (if p.1.length=0/\i=0 then min (i+1) keys.length else i+1-1)):=by
  unfold swap;rw[if_neg];rintro(h | h | h | h)
  ·cases h
  ·simp only at h;omega
  ·omega
  ·omega
 rw[e];refine⟨rfl, ?_, ?_,λk hk=> ?_,by simp only;omega,r2⟩
 ·unfold aN;simp only[aag,acR,acP];omega
 ·unfold aN;simp only[aag,acR,acP];split<;>split<;>omega
 ·unfold aN at hk;simp only at hk
  have aqL:∀x∈keys,x.size<=16:=λx hx=>by
   have:=hm x hx;unfold may at this;simp only[acJ,decide_eq_true_eq]at this;exact this.1.2
  rcases aaf.1 hk with hk | hk
  ·rcases aaf.1 hk with hk | hk
   ·exact aqL k (List.mem_of_mem_take hk)
   ·exact hp.ks k hk
  ·exact aqL k (List.mem_of_mem_drop hk)
def QM(room:Int)(disk:iW)(f:Nat)(q:Except Int Part × dR):Except Int Int × dR:=match q with
 |(.error e,σ1)=>(.error e,σ1)
 |(.ok q,σ1)=>kY room disk f σ1 q
theorem KN{room:Int}{disk:iW}{f:Nat}{q:Except Int Part × dR}{e:Int}(h:q.1= .error e):QM room disk f q=(.error e,q.2):=by
 obtain⟨x,σ⟩:=q;simp only at h;subst h;rfl
theorem abo{room:Int}{disk:iW}{f:Nat}{q:Except Int Part × dR}{p:Part}(h:q.1= .ok p):QM room disk f q=kY room disk f q.2 p:=by
 obtain⟨x,σ⟩:=q;simp only at h;subst h;rfl
theorem XI{room:Int}{disk:iW}{f:Nat}{σ:dR}{p:Part}(h:1<p.1.length):kY room disk (f+1) σ p=QM room disk f (cO room (p.1.length+1) σ 0 (aN p.1 p.2)):=by
 rw[kY,if_pos h]
 cases cO room (p.1.length+1) σ 0 (aN p.1 p.2)with
 |mk q σ1=>cases q<;>rfl
theorem Ux{room:Int}{σ:dR}{n a b n':Node}{j:Nat}(h:(Ht room σ n j a b).1= .ok n'):n'=n\/∃pg,n'=swap n j (j+2) [pg] []:=by
 unfold Ht at h;split at h
 ·injection h with h;exact .inl h.symm
 ·cases hs:ku room σ (n.kids.getD j 0) (join a (n.keys.getD j ⟨#[]⟩) b)with
  |mk q σ1=>
   rw[hs]at h
   cases q with
   |error e=>simp[qW]at h
   |ok pg=>simp only[qW,ajN]at h;exact .inr ⟨pg,h.symm⟩
theorem Uy{room:Int}{disk:iW}{σ:dR}{n n':Node}{i d:Nat}(hi:i<n.kids.length)(h2:1<n.kids.length)(h:(oO room disk σ n i d).1= .ok n'):n'=n\/∃j pg,j+1<n.kids.length/\n'=swap n j (j+2) [pg] []:=by
 by_cases hd:24<=d
 ·unfold oO at h;rw[if_pos hd]at h;simp at h
 ·cases hk:σ.view disk (n.kids.getD i 0)with
  |none=>unfold oO at h;rw[if_neg hd,hk]at h;simp at h
  |some kid=>
   by_cases h80:80<=size kid
   ·rw[abh hd hk h80]at h;injection h with h;exact .inl h.symm
   ·obtain⟨a,b,_,_,e⟩:=Ut hd hk h80 (by rw[h];simp);rw[e]at h;rcases Ux h with h | ⟨pg,h⟩
    ·exact .inl h
    ·exact .inr ⟨_,pg,(aeE hi h2).1,h⟩
theorem aeV{n:Node}{j:Nat}{pg:Int}(hl:n.leaf=false)(hj:j+1<n.kids.length):swap n j (j+2) [pg] []=aN (n.kids.take j++ [pg]++n.kids.drop (j+2)) (n.keys.take j++ []++n.keys.drop (j+1)):=by
 unfold swap;rw[if_neg]
 ·simp
 ·rintro(h | h | h | h)
  ·rw[hl]at h;cases h
  ·omega
  ·omega
  ·simp at h
theorem aeW(l:List Str)(j:Nat):bH (l.take j++ []++l.drop (j+1))<=bH l:=by
 rw[List.append_nil]
 have h:(l.take j++l.drop (j+1)).Sublist (l.take j++l.drop j):=by
  refine List.Sublist.append (aha _) ?_;rw[<-List.drop_drop];exact aj0 1 _
 rw[List.take_append_drop]at h;exact FU h
end Tp
namespace Go.Proofs.YtadnmegdbllaoaaGreatDoor
open Go.RowKit Go.Shelf Tryz
structure aii(S:Nat->Prop)(dof:FuncId)(caps:Array Value)(g:List bT->List bT)(P:World->Prop):Prop where
 keep:∀ {w w'},P w->Fr S w w'->P w'
 call:∀w A c l,P w->SV gV w A c l->l.length<=1000->Calls prog dof (#[.slice A l.length c]++caps) w λe w'=>∃A' c',e= .returned (.slice A' (g l).length c')/\SV gV w' A' c' (g l)/\Below w.heap.size w w'
 enters:∀ (args:Array Value) (w:World),(callFunc dof args).run prog w= .ok (.enter dof args) w
 size:∀l,Nd.bP l<=240->Nd.bP (g l)<=1000
theorem aij{n:Nd.Node}{p:Tp.Part}{i L:Nat}(hf:Nd.fits n=true)(hl:n.leaf=false)(hi:i<n.kids.length)(hp:Tp.PB p L)(hL:L<=2000):NB (Nd.swap n i (i+1) p.1 p.2):=by
 obtain⟨e,h1,h2,h3,h4,_⟩:=Tp.KL hf hl hi hp;have hk:=Tp.Ul h3;have:=hp.len;refine⟨?_,by omega,by omega, ?_,by omega⟩
 ·rw[e];exact ac4 _
 ·rw[e];show Nd.bP []<=_;simp[Nd.bP]
theorem amq{n:Nd.Node}{j:Nat}{pg:Int}(hn:NB n)(hl:n.leaf=false)(hj:j+1<n.kids.length):NB (Nd.swap n j (j+2) [pg] [])/\Tp.cnt (Nd.swap n j (j+2) [pg] [])<=n.kids.length:=by
 rw[Tp.aeV hl hj];have:=hn.i;have:=hn.k;have:=hn.ks;have:=Tp.aeW n.keys j;refine⟨⟨ac4 _, ?_, ?_, ?_, ?_⟩, ?_⟩
 ·unfold Nd.aN;simp only[aag,acR,acP,acH,adh];omega
 ·unfold Nd.aN;simp only[aag,acR,acP,adh];omega
 ·show Nd.bP []<=_;simp[Nd.bP]
 ·show Nd.bH (n.keys.take j++ []++n.keys.drop (j+1))<=_;omega
 ·unfold Tp.cnt Nd.aN;simp only[aag,acR,acP,acH,adh];omega
section
variable {S:Nat->Prop}{B t:Nat}{room:Int}{disk:Tp.iW}{TM:Nat->Tp.dR->World->Prop}
theorem KO{n:Nd.Node}(h:Nd.fits n=true):n.ents.length<=300/\Nd.bP n.ents<=240:=by
 obtain⟨hr,hs⟩:=Tp.eP.1 h;obtain⟨leaf,ents,kids,keys⟩:=n
 cases leaf with
 |true=>
  have hs:Nd.bP ents<=240:=hs;have:=Nd.mD ents;exact⟨by show ents.length<=_;omega,hs⟩
 |false=>
  obtain⟨rfl,_,_,_⟩:=Nd.dV.1 hr;exact⟨ac4 _,by show Nd.bP []<=_;simp[Nd.bP]⟩
theorem KP(M:oU S B t room disk TM)(u:Nat)(root er:Int){dof:FuncId}{caps:Array Value}{g:List bT->List bT}{P:World->Prop}(D:aii S dof caps g P)(key:ByteArray):∀ (f d:Nat) (_:d+f=24) (r:Nat) (σ:Tp.dR) (id:Int) (_:(Tp.iU room disk g key f σ id).1≠ .error 3) (w:World) (_:P w) (_:On S B t u TM root er (r+8*f) σ w),
  Calls prog 163 #[.pointer (some ⟨u,0,none⟩), .int .i64 id, .int .i64 (d:Nat), .string key, .func (.func dof) #[] caps] w (aez S B t u TM root er r (Tp.iU room disk g key f σ id) (600+50*f) w)
 |0,_,_,_,_,_,h3,_,_,_=>absurd rfl h3
 |f+1,d,hdf,r,σ,id,h3,w,hP,h=>by
  obtain⟨n,hv⟩:=Tp.QL h3;obtain⟨iE,hid⟩:=M.ht h.tm hv;have IH:=ah (λr σ id h3 w hP h=>KP M u root er D key f (d+1) ak r σ id h3 w hP h);obtain⟨o,ho⟩:=aJ (Tp.iU room disk g key (f+1) σ id);rw[<-ho]at h3 ⊢;have fG:=M.size h.tm;have hun:u<w.heap.size:=h.self.lt;have bD:=(aai w.heap.size w).alloc aK (.cells #[.slice none 0 0, .slice none 0 0] 240);have uI:=aO.new w 240 #[.slice none 0 0, .slice none 0 0];have hL:=ah (Ea M u root er (r+8*f+6) σ id d n hv ak _ (show On S B t u TM root er (r+8*f+6+2) σ _ from(h.below M bD).less M ak));have HM:=ah M;have HD:=ah D;have vK:=ah iE;have ZM:=ah hid;have HV:=ah hv;have HO:=ah ho;have H3:=ah h3;have HP:=ah hP;have HBp:=ah uI;have zZ:=ah bD;have aDv:d<24:=by omega
  clear h bD uI hid hv ho h3 hP iE D M;go_enter func163,ntmps163
  go_wp2_with fail
  refine aac hL ?_;rintro e w1 ⟨v,rfl,GK,Bo,eH⟩;obtain⟨N1,c1,N2,c2,N3,c3,rfl,rn⟩:=GK;have gI:=eH.size;simp only[aad]at gI;have bK:=(aai w1.heap.size w1).alloc aK (.cells #[.bool n.leaf, .slice N1 n.ents.length c1, .slice N2 n.kids.length c2, .slice N3 n.keys.length c3] 188);have hNF:=NF.below (lo:=w.heap.size) (v:= .agg #[.bool n.leaf, .slice N1 n.ents.length c1, .slice N2 n.kids.length c2, .slice N3 n.keys.length c3]) ⟨N1,c1,N2,c2,N3,c3,rfl,LO.lower rn.1 aH,LO.lower rn.2.1 aH,LO.lower rn.2.2 aH⟩ bK;have amr:Fr S w w1:=(Fr.of_below zZ).trans eH;have kL:=ah (amr.trans (.of_below bK));have oV:=ah (Bo.below HM bK);have abp:=ah ((eH.blk HBp (HM.out.far fG)).alloc (.cells #[.bool n.leaf, .slice N1 n.ents.length c1, .slice N2 n.kids.length c2, .slice N3 n.keys.length c3] 188));have iM:=aO.new w1 188 #[.bool n.leaf, .slice N1 n.ents.length c1, .slice N2 n.kids.length c2, .slice N3 n.keys.length c3];have Bz:(w1.alloc (.cells #[.bool n.leaf, .slice N1 n.ents.length c1, .slice N2 n.kids.length c2, .slice N3 n.keys.length c3] 188)).heap.size=w1.heap.size+1:=by simp
  unfold dw;have HNF:=ah hNF;have g0:=iM.cell 0;have g1:=iM.cell 1;have g2:=iM.cell 2;have g3:=iM.cell 3;have ln:=iM.lt;have Og:=ah iM
  cases iD:n.leaf with
  |true=>
   rw[iD]at HNF kL oV abp g0 g1 g2 g3 ln Og Bz;have kW:o=Tp.cO room (Tp.iZ (Nd.bU (g n.ents))) σ id (Nd.bU (g n.ents)):=by rw[HO.out];exact Tp.QK HV iD
   have pJ:=ah kW;obtain⟨jr,mW⟩:=KO vK
   have hsv:SV gV (w1.alloc (.cells #[.bool true, .slice N1 n.ents.length c1, .slice N2 n.kids.length c2, .slice N3 n.keys.length c3] 188)) N1 c1 n.ents:=by
    obtain⟨_,_,_,_,_,_,e,h1,_,_⟩:=HNF.out.ns;unfold dw at e;simp only[ajE,ajV,ajF,aho,and_true,true_and]at e;obtain⟨_,⟨rfl,rfl⟩,_⟩:=e;exact h1
   have hDC:=HD.out.call _ N1 c1 n.ents (HD.out.keep HP kL) hsv ak;have HDC:=ah hDC;have HGS:=ah (HD.out.size n.ents mW);clear hNF bK iM Bo eH amr rn hsv hDC kW jr mW iD;go_wp2_with fail
   rw[HD.out.enters,Oper.upon_enter];refine aac HDC ?_;rintro e w3 ⟨A',c',rfl,JK,dJ⟩;have IZ:=dJ.size;have BP:=Nd.mD (g n.ents);have hgs:=HGS.out;have xq:NB (Nd.bU (g n.ents)):=⟨by show(g n.ents).length<=_;omega,ac4 _,ac4 _,by show Nd.bP (g n.ents)<=_;omega,by show Nd.bH []<=_;simp[Nd.bH]⟩;have RH:=ah (sO HM u root er (r+8*f+6) (Tp.iZ (Nd.bU (g n.ents))) σ id ZM (.agg #[.bool true, .slice A' (g n.ents).length c', .slice none 0 0, .slice none 0 0]) (Nd.bU (g n.ents)) xq (by rw[<-pJ.out];exact H3) w3 ⟨A',c',none,0,none,0,rfl,JK,FD _,FD _⟩ (oV.out.below HM dJ));rw[<-pJ.out]at RH;have sD:=ah (kL.out.trans (.of_below dJ));have NJ:=ah (abp.out.below dJ abp.out.lt);have ZX:=ah (show Tp.cnt (Nd.bU (g n.ents))<=600+50*(f+1)by unfold Tp.cnt Nd.bU;simp only[adh];omega);generalize (g n.ents).length=gl at*;clear dJ JK BP hgs xq g0 g1 g2 g3 ln;go_wp2_with fail
   refine aac RH ?_;rintro e w4 ⟨v,p,x,rfl,⟨Ap,cp,Aq,cq,rfl,V8,V9⟩,gJ,IU,sW⟩;have yU:=sW.size;have qX:=sW.blk NJ (HM.out.far ak);have d0:=qX.cell 0;have d1:=qX.cell 1;have f0:=qX.frozen 0;have f1:=qX.frozen 1;have lp:=qX.lt;have Ec:=ah qX;have pK:=ah (sD.out.trans sW);have QN:=ah (IU.less HM (show r<=r+8*f+6 by omega));have HPI:=ah (LO.lower V8 (show w.heap.size<=w3.heap.size by omega));have HPK:=ah (LO.lower V9 (show w.heap.size<=w3.heap.size by omega));have FW:=ah (show(o.1= .ok p/\x=0/\Tp.PB p (600+50*(f+1)))\/(o.1= .error 2/\x=2)from gJ.imp (λh=>⟨h.1,h.2.1,h.2.2.mono ZX⟩) (λh=>h));unfold yN;clear sW IU V8 V9 gJ qX;go_wp2
   try simp only[ac3,Exit.then]
   refine bodyPost_ret (bJ iw rfl rfl (Ec.out.jg _ _) rfl) rfl ?_;exact nT HM pK QN Ec aK fG ak (Fr.jg _ _) (BM (LO.Nb HPI (Fr.jg _ _) (λg hg e=>bM HPI Ec ay (e ▸ hg))) (LO.Nb HPK (Fr.jg _ _) (λg hg e=>bM HPK Ec ay (e ▸ hg)))) FW
  |false=>
   rw[iD]at HNF kL oV abp g0 g1 g2 g3 ln Og Bz bK;have aik:=rV vK;have hdw:(d:Int)+1=((d+1:Nat):Int):=by omega
   have RU:Nd.CJ n.keys:=by
    obtain⟨hr,_⟩:=Tp.eP.1 vK;obtain⟨leaf,ents,kids,keys⟩:=n;obtain rfl:leaf=false:=iD;exact((Nd.oK keys).1 (Nd.dV.1 hr).2.2.2).2
   have hnk:n.keys.length+1=n.kids.length:=by
    obtain⟨hr,_⟩:=Tp.eP.1 vK;obtain⟨leaf,ents,kids,keys⟩:=n;obtain rfl:leaf=false:=iD;exact(Nd.dV.1 hr).2.1
   have hci:=Nd.DT n.keys key;have HCH:=ah (JV (.agg #[.bool false, .slice N1 n.ents.length c1, .slice N2 n.kids.length c2, .slice N3 n.keys.length c3]) n key _ HNF.out.ns aik RU);obtain⟨i,hi⟩:=aJ (Nd.child n.keys key);rw[<-hi]at HCH hci;have IX:i<n.kids.length:=by omega
   have kW:o=Tp.QJ room disk id n i (24-f) (Tp.iU room disk g key f σ (n.kids[i]'IX)):=by
    rw[HO.out,Tp.NP HV.out iD, <-hi]
    congr 2
    simp[List.getD,IX]
   obtain⟨oc,hoc⟩:=aJ (Tp.iU room disk g key f σ (n.kids[i]'IX));have ams:oc.1≠ .error 3:=λhc=>H3.out (by rw[kW, <-hoc,Tp.KJ hc]);have HIH:=ah (λW hP xw=>IH.out (r+6) σ (n.kids[i]'IX) (by rw[<-hoc];exact ams) W hP xw);rw[<-hoc]at HIH kW;rw[<-hdw]at HIH;clear hdw;obtain⟨bb,oo,rfl,rJ,gk1⟩:=rn.2.1.ls.int IX;have EW:=ah kW;have aB2:=ah ams;have HNB:=ah aik;have HNK:=ah hnk;have HLF:=ah iD;have as7:(i:Int)<n.kids.length:=by omega
   have Gt:n.kids.length<=100000:=aik.i;have gk2:(w1.alloc (.cells #[.bool false, .slice N1 n.ents.length c1, .slice (some ⟨bb,oo,none⟩) n.kids.length c2, .slice N3 n.keys.length c3] 188)).cell? ⟨bb,oo+i,none⟩=some (.int .i64 (n.kids[i]'IX)):=(bK.cell (p:=⟨bb,oo+i,none⟩) rJ).trans gk1;clear hNF bK iM Bo eH amr rn aik RU hnk hci hi kW hoc ams iD gk1;go_wp2_with fail
   generalize (w1.alloc (.cells #[.bool false, .slice N1 n.ents.length c1, .slice (some ⟨bb,oo,none⟩) n.kids.length c2, .slice N3 n.keys.length c3] 188))=w2 at*;refine HCH.out.mono ?_;rintro e w3 ⟨rfl,dJ⟩;have IZ:=dJ.size;have sD:=ah (kL.out.trans (.of_below dJ));have QH:=ah (oV.out.below HM dJ);have NJ:=ah (abp.out.below dJ abp.out.lt);have Uz:=Og.out.below dJ Og.out.lt;have av3:=ah (NF.below HNF dJ);have gk:=(dJ.cell (p:=⟨bb,oo+i,none⟩) (show bb<w2.heap.size by omega)).trans gk2;have ahD:bb<w3.heap.size:=by omega
   have g2:=Uz.cell 2;have ln:=Uz.lt;have XA:=ah Uz;clear dJ Uz gk2 g0 g1 g3;go_wp2_with fail
   refine aac (HIH.out w3 (HD.out.keep HP sD) (QH.out.less HM ak)) ?_;rintro e w4 ⟨v,p,x,rfl,⟨Ap,cp,Aq,cq,rfl,V8,V9⟩,gJ,IU,sW⟩;have yU:=sW.size;have lZ:=(aai w4.heap.size w4).alloc aK (.cells #[.slice Ap p.1.length cp, .slice Aq p.2.length cq] 240);have kE:=ah ((sD.out.trans sW).trans (.of_below lZ));have Df:=ah (IU.below HM lZ);have amu:=(sW.blk NJ (HM.out.far ak)).alloc (.cells #[.slice Ap p.1.length cp, .slice Aq p.2.length cq] 240);have qX:=sW.blk NJ (HM.out.far ak);have zH:=(sW.blk XA (HM.out.far ak)).alloc (.cells #[.slice Ap p.1.length cp, .slice Aq p.2.length cq] 240);have abq:=aO.new w4 240 #[.slice Ap p.1.length cp, .slice Aq p.2.length cq];have av4:=ah (NF.below (NF.fr av3 sW (λk hk=>by have:=HM.out.low k hk;omega)) lZ);have aB3:(w4.alloc (.cells #[.slice Ap p.1.length cp, .slice Aq p.2.length cq] 240)).heap.size=w4.heap.size+1:=by simp
   unfold yN;rcases gJ with⟨jA,rfl,Fb⟩ | ⟨kQ,rfl⟩
   case' inr=>
    have dM:o=(.error 2,oc.2):=by rw[EW.out,Tp.KJ kQ]
    have HE:=ah dM;have d0:=qX.cell 0;have d1:=qX.cell 1;have f0:=qX.frozen 0;have f1:=qX.frozen 1;have lp:=qX.lt;have Ec:=ah qX;have pK:=ah (sD.out.trans sW);have QN:=ah IU;clear dM kQ lZ sW IU V8 V9 amu qX zH abq gk g2;go_wp2
    try simp only[ac3,Exit.then]
    refine bodyPost_ret (bJ iw rfl rfl ((Ec.out.jg _ _).alloc _) rfl) rfl ?_;exact nT HM pK (by rw[HE.out];exact QN.out.less HM ak) Ec aK fG ak ((Fr.jg _ _).trans (.of_below (aU.alloc aK _))) (KF _ _) (.inr ⟨by rw[HE.out],rfl⟩)
   have hLi:=LO.below V8 lZ;have hLk:=LO.below V9 lZ;obtain⟨sf1,sf2,sf3,sf4,sf5,_⟩:=Tp.KL (i:=i) vK HLF IX Fb;have amv:=aij (i:=i) vK HLF IX Fb ak;have Cb:=Fb.len;have hcr:o=Tp.xQ room id (Tp.kX room disk p oc.2 (Nd.swap n i (i+1) p.1 p.2) i (24-f)):=by rw[EW.out,Tp.abn jA]
   have hsw:=swap_any (dw n.leaf N1 n.ents.length c1 (some ⟨bb,oo,none⟩) n.kids.length c2 N3 n.keys.length c3) n Ap Aq cp cq i (i+1) p.1 p.2 HLF ak ak HNK Fb.keys _ (by have:=av4.out.ns;unfold dw;rw[HLF.out];exact this) HNB (LO.sv hLi) (LO.sv hLk) ak;rw[show(((i+1:Nat)):Int)=(i:Int)+1 by omega]at hsw;unfold dw at hsw;rw[HLF.out]at hsw;obtain⟨ns,BQ⟩:=aJ (Nd.swap n i (i+1) p.1 p.2);rw[<-BQ]at sf1 sf2 sf3 sf4 amv hcr hsw;have aqM:ns.leaf=false:=by rw[sf1];rfl
   have aDw:p.1.length<=10000:=by omega
   have aB4:p.2.length<=10000:=by have:=Fb.keys;omega
   have HSW:=ah hsw;have HCR:=ah hcr;have nI:=ah sf1;have uz:=ah sf2;have ZY:=ah sf3;have lD:=ah sf4;have lG:=ah sf5;have ail:=ah amv;have aqN:=ah aqM;have HPL:=ah Cb;have g0:=zH.cell 0;have g1:=zH.cell 1;have g2:=zH.cell 2;have g3:=zH.cell 3;have ln:=zH.lt;have p0:=abq.cell 0;have p1:=abq.cell 1;have lt5:=abq.lt;have XB:=ah amu;have NK:=ah zH;have aqO:=ah abq;clear jA Fb lZ sW IU V8 V9 amu qX zH abq gk hLi hLk sf1 sf2 sf3 sf4 sf5 amv hcr hsw BQ aqM Cb;go_wp2_with fail
   generalize (w4.alloc (.cells #[.slice Ap p.1.length cp, .slice Aq p.2.length cq] 240))=w5 at*;refine HSW.out.mono ?_;rintro e w6 ⟨vs,rfl,av5,BR⟩;have VF:=BR.size;obtain⟨S1,s1,S2,s2,S3,s3,rfl,rs⟩:=av5;have KQ:=NK.out.below BR NK.out.lt;have e0:=KQ.cell 0;have e1:=KQ.cell 1;have e2:=KQ.cell 2;have e3:=KQ.cell 3;have f0:=KQ.frozen 0;have f1:=KQ.frozen 1;have f2:=KQ.frozen 2;have f3:=KQ.frozen 3;have ln:=KQ.lt;have aeX:=aqO.out.below BR aqO.out.lt;have p0:=aeX.cell 0;have p1:=aeX.cell 1;have lt6:=aeX.lt;have hfp:∀a b c d,Fr (λk=>k=w1.heap.size) w6 ((((w6.setCell ⟨w1.heap.size,0,none⟩ a).setCell ⟨w1.heap.size,1,none⟩ b).setCell ⟨w1.heap.size,2,none⟩ c).setCell ⟨w1.heap.size,3,none⟩ d):=λa b c d=>Fr.uP a b c d;have HFP:=ah hfp;have av6:=ah (NF.lower (lo':=w.heap.size) (v:=dw ns.leaf S1 ns.ents.length s1 S2 ns.kids.length s2 S3 ns.keys.length s3) ⟨S1,s1,S2,s2,S3,s3,rfl,rs⟩ ak);have vS:=ah (kE.out.trans (.of_below BR));have abr:=ah (Df.out.below HM BR);have NM:=ah (XB.out.below BR XB.out.lt);have amw:=ah KQ;have hW:∃W,W=((((w6.setCell ⟨w1.heap.size,0,none⟩ (.bool ns.leaf)).setCell ⟨w1.heap.size,1,none⟩ (.slice S1 ns.ents.length s1)).setCell ⟨w1.heap.size,2,none⟩ (.slice S2 ns.kids.length s2)).setCell ⟨w1.heap.size,3,none⟩ (.slice S3 ns.keys.length s3)):=⟨_,rfl⟩;obtain⟨w7,YE⟩:=hW;have XJ:Fr (λk=>k=w1.heap.size) w6 w7:=by rw[YE];exact HFP _ _ _ _
   have XE:aO w7 w1.heap.size 188 #[.bool ns.leaf, .slice S1 ns.ents.length s1, .slice S2 ns.kids.length s2, .slice S3 ns.keys.length s3]:=by rw[YE];exact amw.out.vI _ _ _ _
   have hz7:=XJ.size;have xA:=ah (Fr.old (S':=λk=>S k\/k=w1.heap.size) ((vS.out.more λ_=> .inl).trans (XJ.more λ_=> .inr)) (λk hk=>hk.imp_right λe=>by omega));have abm:=ah (abr.out.own HM XJ amw ak ak ay ay ay ay);have ah6:=ah (XJ.blk NM ak);have aqP:=XJ.blk aeX ak;have aqQ:=ah (NF.frP av6 amw XJ);have HW7:=ah YE;have amf:=ah XE;have aB5:=ah aqP
   have amx:=ah (show Tp.cnt ns<=600+50*(f+1)by
    have h1:=uz.out;have h2:=HPL.out;have h3:=lG.out;have h4:ns.ents.length=0:=by have:=nI.out;rw[this];rfl
    unfold Tp.cnt;omega)
   clear BR KQ aeX hfp rs g0 g1 g2 g3 XJ XE aqP;unfold dw;by_cases hc:p.1.length=1/\1<ns.kids.length
   ·have kW:o=Tp.xQ room id (Tp.oO room disk oc.2 ns i (24-f)):=by rw[HCR.out];unfold Tp.kX;rw[if_pos hc]
    obtain⟨ofl,hof⟩:=aJ (Tp.oO room disk oc.2 ns i (24-f));have UA:ofl.1≠ .error 3:=λhcc=>H3.out (by rw[kW, <-hof,Tp.Hy hcc]);have hd1:d+1=24-f:=by omega
    have pW:i<ns.kids.length:=by have:=uz.out;omega
    have aqR:ns.keys.length+1=ns.kids.length:=by
     rcases ZY.out with h | h
     ·exact h
     ·omega
    have aQ:=ah (aeJ HM u root er r w.heap.size oc.2 (dw ns.leaf S1 ns.ents.length s1 S2 ns.kids.length s2 S3 ns.keys.length s3) ns i (d+1) aqN aqR lD pW hc.2 ail (by rw[hd1, <-hof];exact UA) w7 aqQ ak (by have:=xA.out.size;omega) abm);rw[hd1, <-hof]at aQ;rw[<-hof]at kW;rw[show(((24-f:Nat)):Int)=(d:Int)+1 by omega]at aQ;unfold dw at aQ;have hp1:((p.1.length:Int)==1)=true:=by rw[beq_iff_eq];omega
    have vg:1<(ns.kids.length:Int):=by omega
    have YI:=λn' h=>Tp.Uy (room:=room) (disk:=disk) (σ:=oc.2) (n:=ns) (n':=n') (i:=i) (d:=24-f) pW hc.2 h;rw[<-hof]at YI;have Yt:=ah YI;have pJ:=ah kW;have aqS:=ah UA;clear kW UA hd1 pW aqR hc YI hof;go_wp2_with fail
    try simp only[<-HW7.out]
    refine aac aQ ?_;rintro e w8 ⟨v8,n8,x,rfl,av7,gJ,aqT,hf8⟩;have hz8:=hf8.size;obtain⟨U1,u1,U2,u2,U3,u3,rfl,ru⟩:=av7;have KR:=hf8.blk amf (HM.out.far ak);have aqU:=ah KR;have e0:=KR.cell 0;have e1:=KR.cell 1;have e2:=KR.cell 2;have e3:=KR.cell 3;have f0:=KR.frozen 0;have f1:=KR.frozen 1;have f2:=KR.frozen 2;have f3:=KR.frozen 3;have ln:=KR.lt;have UC:=hf8.blk ah6 (HM.out.far ak);have Iu:=ah (xA.out.trans hf8);have av8:=ah aqT;obtain⟨w9,hw9⟩:=aJ (((((w8.setCell ⟨w1.heap.size,0,none⟩ (.bool n8.leaf)).setCell ⟨w1.heap.size,1,none⟩ (.slice U1 n8.ents.length u1)).setCell ⟨w1.heap.size,2,none⟩ (.slice U2 n8.kids.length u2)).setCell ⟨w1.heap.size,3,none⟩ (.slice U3 n8.keys.length u3)));have abt:Fr (λk=>k=w1.heap.size) w8 w9:=by rw[hw9];exact Fr.uP _ _ _ _
    have hz9:=abt.size;have HF9:=ah (Fr.old (S':=λk=>S k\/k=w1.heap.size) ((Iu.out.more λ_=> .inl).trans (abt.more λ_=> .inr)) (λk hk=>hk.imp_right λe=>by omega));have aie:=ah (av8.out.own HM abt aqU ak ak ay ay ay ay);have aqV:=abt.blk UC ak;have d0:=UC.cell 0;have d1:=UC.cell 1;have q0:=UC.frozen 0;have q1:=UC.frozen 1;have lp:=UC.lt;have QD:=ah UC;have abf:=ah aqV;have av9:=ah (show NF w.heap.size w8 (dw n8.leaf U1 n8.ents.length u1 U2 n8.kids.length u2 U3 n8.keys.length u3) n8 from⟨U1,u1,U2,u2,U3,u3,rfl,ru⟩);have awc:=ah (NF.frP av9 aqU abt);have HW9:=ah hw9;unfold dw;clear hf8 aqT ru KR UC aqV abt hw9;rcases gJ with⟨jA,rfl⟩ | ⟨kQ,rfl⟩
    ·have aqW:o=Tp.cO room (Tp.iZ n8) ofl.2 id n8:=by rw[pJ.out,Tp.KI jA]
     have amy:NB n8/\Tp.cnt n8<=600+50*(f+1):=by
      rcases Yt.out n8 jA with h | ⟨j,pg,hj,h⟩
      ·rw[h];exact⟨ail,amx⟩
      ·have h2:=amq (pg:=pg) ail aqN hj;rw[h];exact⟨h2.1,acN h2.2 (by have:=amx.out;unfold Tp.cnt at this;omega)⟩
     have HO2:=ah aqW;have RH:=ah (sO HM u root er r (Tp.iZ n8) ofl.2 id ZM (dw n8.leaf U1 n8.ents.length u1 U2 n8.kids.length u2 U3 n8.keys.length u3) n8 amy.1 (by rw[<-HO2.out];exact H3) w9 awc.out.ns aie);rw[<-HO2.out]at RH;unfold dw at RH;have amA:=abf;have HFX:=HF9;have ZX:=ah amy.2;clear jA aqW amy;go_wp2_with fail
     try simp only[<-HW9.out]
     refine aac RH ?_;rintro e w14 ⟨v,q,x,rfl,⟨Bp,dp,Bq,dq,rfl,rq1,rq2⟩,gJ,Hw,zJ⟩;have aqG:=zJ.size;have tX:=zJ.blk amA (HM.out.far ak);have d0:=tX.cell 0;have d1:=tX.cell 1;have f0:=tX.frozen 0;have f1:=tX.frozen 1;have lp:=tX.lt;have Ed:=ah tX;have aeT:=ah (HFX.out.trans zJ);have Uw:=ah (Hw.less HM (show r<=r by omega));have HPI:=ah (LO.lower rq1 (show w.heap.size<=_ by omega));have HPK:=ah (LO.lower rq2 (show w.heap.size<=_ by omega));have FW:=ah (show(o.1= .ok q/\x=0/\Tp.PB q (600+50*(f+1)))\/(o.1= .error 2/\x=2)from gJ.imp (λh=>⟨h.1,h.2.1,h.2.2.mono ZX⟩) (λh=>h));unfold yN;clear zJ Hw rq1 rq2 gJ tX;go_wp2
     try simp only[ac3,Exit.then]
     refine bodyPost_ret (bJ iw rfl rfl (Ed.out.jg _ _) rfl) rfl ?_;exact nT HM aeT Uw Ed aK fG ak (Fr.jg _ _) (BM (LO.Nb HPI (Fr.jg _ _) (λg hg e=>bM HPI Ed ay (e ▸ hg))) (LO.Nb HPK (Fr.jg _ _) (λg hg e=>bM HPK Ed ay (e ▸ hg)))) FW
    ·have dM:o=(.error 2,ofl.2):=by rw[pJ.out,Tp.Hy kQ]
     have HE:=ah dM;clear kQ dM;go_wp2
     try simp only[ac3,Exit.then]
     try simp only[<-HW9.out]
     refine bodyPost_ret (bJ iw rfl rfl (abf.out.jg _ _) rfl) rfl ?_;exact nT HM HF9 (by rw[HE.out];exact aie) abf aK fG ak (Fr.jg _ _) (KF _ _) (.inr ⟨by rw[HE.out],rfl⟩)
   ·have kW:o=Tp.cO room (Tp.iZ ns) oc.2 id ns:=by
     rw[HCR.out];unfold Tp.kX;rw[if_neg hc,Tp.KI rfl]
    have pJ:=ah kW;have RH:=ah (sO HM u root er (r+6) (Tp.iZ ns) oc.2 id ZM (dw ns.leaf S1 ns.ents.length s1 S2 ns.kids.length s2 S3 ns.keys.length s3) ns ail (by rw[<-pJ.out];exact H3) w7 aqQ.out.ns abm);rw[<-pJ.out]at RH;unfold dw at RH;have amA:=ah6;have HFX:=xA;have ZX:=amx
    have agG:((p.1.length:Int)==1)=false\/((p.1.length:Int)==1)=true/\¬1<(ns.kids.length:Int):=by
     by_cases h1:p.1.length=1
     ·exact .inr ⟨by rw[beq_iff_eq];omega,by omega⟩
     ·exact .inl (by rw[beq_eq_false_iff_ne];omega)
    clear hc kW;rcases agG with ZO | ⟨ZO,Dy⟩
    all_goals
     go_wp2_with fail
     try simp only[<-HW7.out]
     refine aac RH ?_;rintro e w14 ⟨v,q,x,rfl,⟨Bp,dp,Bq,dq,rfl,rq1,rq2⟩,gJ,Hw,zJ⟩;have aqG:=zJ.size;have tX:=zJ.blk amA (HM.out.far ak);have d0:=tX.cell 0;have d1:=tX.cell 1;have f0:=tX.frozen 0;have f1:=tX.frozen 1;have lp:=tX.lt;have Ed:=ah tX;have aeT:=ah (HFX.out.trans zJ);have Uw:=ah (Hw.less HM (show r<=r+6 by omega));have HPI:=ah (LO.lower rq1 (show w.heap.size<=_ by omega));have HPK:=ah (LO.lower rq2 (show w.heap.size<=_ by omega));have FW:=ah (show(o.1= .ok q/\x=0/\Tp.PB q (600+50*(f+1)))\/(o.1= .error 2/\x=2)from gJ.imp (λh=>⟨h.1,h.2.1,h.2.2.mono ZX⟩) (λh=>h));unfold yN;clear zJ Hw rq1 rq2 gJ tX;go_wp2
     try simp only[ac3,Exit.then]
     refine bodyPost_ret (bJ iw rfl rfl (Ed.out.jg _ _) rfl) rfl ?_;exact nT HM aeT Uw Ed aK fG ak (Fr.jg _ _) (BM (LO.Nb HPI (Fr.jg _ _) (λg hg e=>bM HPI Ed ay (e ▸ hg))) (LO.Nb HPK (Fr.jg _ _) (λg hg e=>bM HPK Ed ay (e ▸ hg)))) FW
end
theorem XK{disk:Tp.iW}{f:Nat}{σ:Tp.dR}{id:Int}{n:Nd.Node}(hv:σ.view disk id=some n)(hc:n.leaf=true\/1<n.kids.length):Tp.iV disk (f+1) σ id=(.ok id,σ):=by
 rw[Tp.iV,hv];simp only;rw[if_pos hc]
theorem abu{disk:Tp.iW}{f:Nat}{σ:Tp.dR}{id:Int}{n:Nd.Node}(hv:σ.view disk id=some n)(hc:¬ (n.leaf=true\/1<n.kids.length)):Tp.iV disk (f+1) σ id=Tp.iV disk f (Tp.iK σ id) (n.kids.getD 0 0):=by
 rw[Tp.iV,hv];simp only;rw[if_neg hc]
theorem UD{disk:Tp.iW}{f:Nat}{σ:Tp.dR}{id:Int}(h3:(Tp.iV disk f σ id).1≠ .error 3):∃f' n,f=f'+1/\σ.view disk id=some n:=by
 cases f with
 |zero=>exact absurd rfl h3
 |succ f=>
  cases hv:σ.view disk id with
  |some n=>exact⟨f,n,rfl,rfl⟩
  |none=>rw[Tp.iV,hv]at h3;exact absurd rfl h3
section
variable {S:Nat->Prop}{B t:Nat}{room:Int}{disk:Tp.iW}{TM:Nat->Tp.dR->World->Prop}
def aeY(S:Nat->Prop)(B t u:Nat)(TM:Nat->Tp.dR->World->Prop)(root er:Int)(r:Nat)(o:Except Int Int × Tp.dR)(w:World)(e:Ending)(w':World):Prop:=
 ∃p x:Int,e= .returned (.tuple #[.int .i64 p, .int .i64 x])/\((o.1= .ok p/\x=0)\/(o.1= .error 2/\x=2))/\On S B t u TM root er r o.2 w'/\Fr S w w'
theorem XL(M:oU S B t room disk TM)(u:Nat)(root er:Int)(r:Nat)(σ:Tp.dR)(id:Int)(h3:(Tp.iV disk 24 σ id).1≠ .error 3)(w:World)(h:On S B t u TM root er (r+48) σ w):
  Calls prog 188 #[.pointer (some ⟨u,0,none⟩), .int .i64 id] w (aeY S B t u TM root er r (Tp.iV disk 24 σ id) w):=by
 obtain⟨o,ho⟩:=aJ (Tp.iV disk 24 σ id);rw[<-ho]at h3 ⊢;have HO:=ah ho;have H3:=ah h3;have HM:=ah M;have RF:=ah h;have fG:=M.size h.tm;have hun:u<w.heap.size:=h.self.lt;clear ho h3 h M;go_enter func188,ntmps188
 go_wp2
 go_loopg [1,6] 24 (λg s1 s6 wr=>∃ (d f:Nat) (σi:Tp.dR) (VJ:Int),s1= .int .i64 VJ/\s6= .int .i64 (d:Nat)/\d+f=24/\f<=g/\Hid (o=Tp.iV disk f σi VJ)/\Hid (On S B t u TM root er (r+2*f) σi wr)/\Hid (Fr S w wr))
 case atStart=>exact⟨0,24,σ,id,rfl,rfl,rfl,aK,HO,RF,ah aX⟩
 case round=>
  obtain⟨d,f,σi,VJ,rfl,rfl,hdf,hfg,YC,NQ,VI⟩:=hrel;obtain⟨f,n,rfl,hv⟩:=UD (by rw[<-YC.out];exact H3);obtain⟨iE,hid⟩:=HM.out.ht NQ.out.tm hv;have HLD:=ah (Ea HM u root er (r+2*f) σi VJ d n hv ak wr (NQ.out.less HM ak));have hwz:=VI.out.size;have vK:=ah iE;have ZM:=ah hid;have HV:=ah hv;clear hv iE hid;go_wp2_with fail
  refine aac HLD ?_;rintro e w1 ⟨v,rfl,GK,Bo,eH⟩;obtain⟨N1,c1,N2,c2,N3,c3,rfl,rn⟩:=GK;have gI:=eH.size;have bK:=(aai w1.heap.size w1).alloc aK (.cells #[.bool n.leaf, .slice N1 n.ents.length c1, .slice N2 n.kids.length c2, .slice N3 n.keys.length c3] 188);have kL:=ah ((VI.out.trans eH).trans (.of_below bK));have kN:=Bo.below HM bK;have iM:=aO.new w1 188 #[.bool n.leaf, .slice N1 n.ents.length c1, .slice N2 n.kids.length c2, .slice N3 n.keys.length c3];have HRN:=ah rn.2.1;have qj:=ah bK;unfold dw;by_cases hc:n.leaf=true\/1<n.kids.length
  ·have kW:o=(.ok VJ,σi):=by rw[YC.out,XK HV.out hc]
   have pJ:=ah kW;have oV:=ah (kN.less HM (show r<=r+2*f by omega));have g0:=iM.cell 0;have g2:=iM.cell 2;have ln:=iM.lt;clear kW bK Bo kN eH rn iM
   cases iD:n.leaf with
   |true=>
    rw[iD]at kL oV g0 g2 ln;clear hc iD;go_wp2;go_ret2;exact⟨VJ,0,rfl, .inl ⟨by rw[pJ.out],rfl⟩,by rw[pJ.out];exact oV,kL⟩
   |false=>
    have hk:1<(n.kids.length:Int):=by
     rcases hc with hc | hc
     ·rw[iD]at hc;cases hc
     ·omega
    rw[iD]at kL oV g0 g2 ln;clear hc iD;go_wp2;go_ret2;exact⟨VJ,0,rfl, .inl ⟨by rw[pJ.out],rfl⟩,by rw[pJ.out];exact oV,kL⟩
  ·have kW:o=Tp.iV disk f (Tp.iK σi VJ) (n.kids.getD 0 0):=by rw[YC.out,abu HV.out hc]
   have iD:n.leaf=false:=by cases h:n.leaf with
    |false=>rfl
    |true=>exact absurd (.inl h) hc
   have vg:¬1<n.kids.length:=λh=>hc (.inr h)
   have PX:0<n.kids.length:=by
    obtain⟨hr,_⟩:=Tp.eP.1 vK;obtain⟨leaf,ents,kids,keys⟩:=n;obtain rfl:leaf=false:=iD;have:=(Nd.dV.1 hr).2.1;simp only;omega
   have yh:n.kids.getD 0 0=n.kids[0]'PX:=by simp[List.getD,PX]
   rw[yh]at kW;obtain⟨bb,oo,rfl,rJ,gk⟩:=HRN.out.ls.int PX;have pJ:=ah kW;have HK0:=ah PX;have gk2:=(bK.cell (p:=⟨bb,oo,none⟩) rJ).trans gk;rw[iD]at kL kN iM qj gk2 bK ⊢;have g0:=iM.cell 0;have g2:=iM.cell 2;have ln:=iM.lt;have c0:(w1.alloc (.cells #[.bool false, .slice N1 n.ents.length c1, .slice (some ⟨bb,oo,none⟩) n.kids.length c2, .slice N3 n.keys.length c3] 188)).cell? ⟨u,0,none⟩=some (.pointer (some ⟨t,0,none⟩)):=kN.self.cell 0;have lu:=kN.self.lt;have oV:=ah kN;have Og:=ah iM;have aB6:¬1<(n.kids.length:Int):=by omega
   have aB7:0<(n.kids.length:Int):=by omega
   have HDR:=ah (HM.out.drop VJ kN.tm ZM);have Bz:(w1.alloc (.cells #[.bool false, .slice N1 n.ents.length c1, .slice (some ⟨bb,oo,none⟩) n.kids.length c2, .slice N3 n.keys.length c3] 188)).heap.size=w1.heap.size+1:=by simp
   clear hc iD kW yh bK Bo kN eH rn iM gk;go_wp2_with fail
   generalize (w1.alloc (.cells #[.bool false, .slice N1 n.ents.length c1, .slice (some ⟨bb,oo,none⟩) n.kids.length c2, .slice N3 n.keys.length c3] 188))=w2 at*;refine HDR.out.mono ?_;rintro e w3 ⟨rfl,yQ,nP⟩;have IZ:=nP.size;have aeK:=oV.out.step HM yQ nP;have Uz:=nP.blk Og (HM.out.far ak)
   have gk3:w3.cell? ⟨bb,oo,none⟩=some (.int .i64 (n.kids[0]'HK0.out)):=by
    have hLO:=LO.fr (LO.below HRN qj) nP (λk hk=>by have:=HM.out.low k hk;omega);exact hLO.ls.int' HK0
   have ahD:bb<w3.heap.size:=by omega
   have g2:=Uz.cell 2;have ln:=Uz.lt;have QH:=ah (aeK.less HM (show r+2*f<=r+2*f by omega));have sD:=ah (kL.out.trans nP);clear yQ nP aeK Uz gk2 c0 lu g0;go_wp2
   go_roundg f
   case measure=>omega
   case rel=>exact⟨d+1,f,_,_,rfl,by go_num,by omega,aK,pJ,QH,sD⟩
end
end Go.Proofs.YtadnmegdbllaoaaGreatDoor
