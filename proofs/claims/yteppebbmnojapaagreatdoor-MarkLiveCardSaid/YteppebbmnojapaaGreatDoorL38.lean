/- Part of this proof. -/
import Derived.Deep.Slices
import Derived.Deep.Fields
import Derived.ChangeSame
import Derived.ProofKit
import Derived.SliceStrings
import Derived.Test.YteppebbmnojapaaGreatDoorL37
set_option maxRecDepth 100000
set_option maxHeartbeats 8000000
namespace Go.Proofs.YteppebbmnojapaaGreatDoor
open Go.RowKit Go.Shelf Go.Maps
section
variable {F:aT}{n B t m:Nat}{used:List Run}{disk:Tp.aA}{root:Int}{σ:Tp.Pst}{r:Nat}{W w':World}{all rs:List Int}
def aaZ(F:aT)(B t m n:Nat)(used:List Run)(disk:Tp.aA)(r:Nat)(σ:Tp.Pst)(all:List Int)(b:Nat)(S:Nat->Prop)(W:World)(e:Ending)(w':World):Prop:=
 ∃v,e= .returned (.tuple #[v, .int .i64 0])/\Own w' b v (Rp.norm (all.map dJ))/\TMd F B t m n used disk r σ w'/\Fr S W w'
theorem Ur(h:TMd F B t m n used disk (r+2*all.length) σ W)(hd:F.d<B)(hall:AllOf (σ.view disk) rs all)(hpos:∀x∈all,0<x)(hl:all.length<=50000/\rs.length<=50000)(A:Option Addr)(c:Nat)(hls:LS aV W W.heap.size A rs):
  Calls Tryz.prog 74 #[.pointer (some ⟨t,0,none⟩), .slice A rs.length c] W (aaZ F B t m n used disk r σ all W.heap.size (fun k=>k=F.d) W):=by
 have hdt:F.d≠t:=by have:=(h.sep F.d (.inr (.inl rfl))).1;omega
 have M:=Le F (B:=B) (t:=t) (m:=m) h.low.1 hd hdt n W.heap.size h.low.2.2 used disk
 have hC:Closed (σ.view disk) (fun _=>False) all:=by
  refine⟨fun x hx=> ?_,fun x hx=> .inl ?_⟩<;>obtain⟨root,es,tok,ids,q1,q2,q3,q4⟩:=hall.inn x hx
  ·obtain⟨y,hy⟩:=q2.some_ x q3
   exact(h.ht_ hy).2
  ·rcases q2 with⟨_,_,rfl⟩ | ⟨hh,s,a,rfl,b,d,ht,_⟩
   ·exact absurd q3 List.not_mem_nil
   ·obtain⟨y,y1,y2⟩:=Mk.tH ht x q3
    exact⟨y,y1,fun k hk=> .inr (q4 k (y2 k hk)),(iT (h.ht_ y1).1).i⟩
 refine(Dy (bad:=fun _=>False) M (by intro r σ w id _ hb;exact hb.elim) all rs hC hall.root hl.1 hl.2 A c hls h.tmr (Nat.le_refl _)).mono ?_
 rintro e w' ⟨hf,⟨v,met,out,rfl,hown,hinv,hgood,acF⟩ | ⟨_,⟨x,_,_,hb⟩,_⟩⟩
 ·have hmo:∀x,x∈met ↔ x∈out:=fun x=>by rw[hinv.mem];simp
  have hoa:∀x,x∈out ↔ x∈all:=fun x=>⟨fun ho=>hinv.inn x ((hmo x).2 ho),fun ha=>by
   obtain⟨root,es,tok,ids,q1,q2,q3,q4⟩:=hall.inn x ha
   exact hinv.done q1 q2 (fun i hi=>hpos i (q4 i hi)) x q3⟩
  rw[Gf hoa]at hown
  exact⟨v,rfl,hown,acF.tm.less (by omega),hf⟩
 ·exact hb.elim
theorem yD(vs:List Ct.Ver)(hok:∀v∈vs,v.Ok)(hlen:vs.length<=10000)(q:Nat)(h:TMd F B t m n used disk q σ W)(hd:F.d<B)
  (hS:∀u W',On (SD F t m) B t u (TMd F B t m n used disk) root 0 q σ W'->Calls Tryz.prog 54 #[.pointer (some ⟨u,0,none⟩), .string ⟨#[86]⟩, .string ⟨#[87]⟩] W' (FX (SD F t m) B t u (TMd F B t m n used disk) root (r+2*all.length) σ (vs.map Ct.kX) W'))
  (hall:AllOf (σ.view disk) (root::vs.map (fun v=>(v.root:Int))) all) (hpos:∀x∈all,0<x) (hl:all.length<=50000):
  Calls Tryz.prog 28 #[.pointer (some ⟨t,0,none⟩), .int .i64 root] W (aaZ F B t m n used disk r σ all W.heap.size (SD F t m) W):=by
 have hM:=tq F h.low.1 h.low.2.1 hd n used disk
 have HN:=Lib.hid (FY hM root q σ W h)
 have HS:=Lib.hid hS
 have HC:=Lib.hid (fun c u w hc hw=>Uo hM c u root vs hok (by omega) (r+2*all.length) σ w hc hw)
 have HT:=Lib.hid (fun(W:World) A c hT hls=>Ur (F:=F) (B:=B) (t:=t) (m:=m) (n:=n) (used:=used) (disk:=disk) (r:=r) (σ:=σ) (W:=W) (all:=all) (rs:=root::vs.map (fun v=>(v.root:Int))) hT hd hall hpos ⟨hl,by simp;omega⟩ A c hls)
 have HM:=Lib.hid hM
 clear hS hM h hall hpos hok
 go_enter Tryz.func28,Tryz.ntmps28
 go_wp2_with fail
 refine HN.out.mono ?_
 rintro e w1 ⟨u,rfl,hon,hu,hb⟩
 have HB:=Lib.hid hb
 have X0:=Lr u w1
 have b2:Below w1.heap.size w1 (w1.alloc (.cells #[.pointer (some ⟨u,0,none⟩)] 154)):=(Below.refl _ w1).alloc (Nat.le_refl _) _
 have dV:=hon.below HM.out b2
 have hcb:=Blk.new w1 154 #[.pointer (some ⟨u,0,none⟩)]
 have HB2:=Lib.hid (hb.trans (b2.mono hb.size))
 clear hon hb HN b2
 go_wp2_with fail
 refine X0.mono ?_
 rintro e w2 ⟨rfl,rfl⟩
 go_wp2_with fail
 refine(HC.out _ _ _ hcb (HS.out u _ dV)).mono ?_
 rintro e w3 ⟨A,k,rfl,hl3,yx,hf3⟩
 have HON:=Lib.hid yx
 have HF:=Lib.hid ((Fr.of_below (S:=SD F t m) HB2.out).trans hf3)
 have hls:=hl3.ls
 clear hl3 yx hf3 dV hcb X0 HB2 HB HC HS
 have h0:=Blk.new w3 3 #[.int .i64 root]
 have hone:LO aV 3 (w3.alloc (.cells #[.int .i64 root] 3)) w3.heap.size (.slice (some ⟨w3.heap.size,0,none⟩) 1 1) [root]:=LO.one rfl rfl h0 (Nat.le_refl _)
 have b4:Below w3.heap.size w3 (w3.alloc (.cells #[.int .i64 root] 3)):=(Below.refl _ w3).alloc (Nat.le_refl _) _
 clear h0
 go_wp2
 go_loopw [8,26] (fun o i wr=>∃j:Nat,j<=vs.length/\i= .int .i64 j/\LO aV 3 wr w3.heap.size o (root::(vs.take j).map (fun v=>(v.root:Int)))/\Below w3.heap.size w3 wr) (fun _ i _=>vs.length-(intOf i).toNat)
 case atStart=>exact⟨0,Nat.zero_le _,rfl,hone,b4⟩
 case round=>
  clear hone b4
  obtain⟨j,hj,rfl,hown,hb⟩:=hrel
  obtain⟨A2,c2,rfl⟩:=hown.form
  have hll:(root::(vs.take j).map (fun v=>(v.root:Int))).length=j+1:=by simp;omega
  by_cases hlt:j<vs.length
  ·obtain⟨b,off,rfl,hbb,hcs⟩:=hls.at_ hlt
   have htk:vs.take (j+1)=vs.take j++ [vs[j]]:=List.take_succ_eq_append_getElem hlt
   have HTK:=Lib.hid htk
   generalize vs[j]=v at*
   obtain⟨id,par,rt,edges⟩:=v
   have k0:wr.cell? ⟨b,off+j*4,none⟩=some (.int .i64 id):=(hb.cell (p:=⟨b,off+j*4,none⟩) hbb).trans (hcs 0 (by decide))
   have k1:wr.cell? ⟨b,off+j*4+1,none⟩=some (.int .i64 par):=(hb.cell (p:=⟨b,off+j*4+1,none⟩) hbb).trans (hcs 1 (by decide))
   have k2:wr.cell? ⟨b,off+j*4+2,none⟩=some (.int .i64 rt):=(hb.cell (p:=⟨b,off+j*4+2,none⟩) hbb).trans (hcs 2 (by decide))
   have k3:wr.cell? ⟨b,off+j*4+3,none⟩=some (.int .i64 edges):=(hb.cell (p:=⟨b,off+j*4+3,none⟩) hbb).trans (hcs 3 (by decide))
   have b6:=hb.alloc hb.size (.cells #[.int .i64 id, .int .i64 par, .int .i64 rt, .int .i64 edges] 56)
   have o6:=hown.below (Below.alloc (Below.refl _ wr) (Nat.le_refl _) (.cells #[.int .i64 id, .int .i64 par, .int .i64 rt, .int .i64 edges] 56))
   have hbv:=Blk.new wr 56 #[.int .i64 id, .int .i64 par, .int .i64 rt, .int .i64 edges]
   have v2:=hbv.cell 2
   have hraw:=LO.raw o6 hll (show aV.size=1 from rfl)
   rw[hll]at hraw
   have hz6:=b6.size
   rw[hll]
   clear htk hown hbv o6 hcs
   go_wp2_with (at_builtin;refine aU rfl _ _ 49 rfl wL Tryz.underlying49 rfl (by decide) rfl hraw rfl (by simp) rfl (by simp[Value.oneCell']) (by unfold maxLen;omega) (by omega) hz6 ?_;intro v' w7 hown' hgrow hbel _ _)
   have hsn:=LO.snoc (E:=aV) (x:=(rt:Int)) (l:=root::(vs.take j).map (fun v=>(v.root:Int))) (n:=j+1) (by simp;omega) rfl rfl hown'
   have ahb:LO aV 3 w7 w3.heap.size v' (root::(vs.take (j+1)).map (fun v=>(v.root:Int))):=by
    rw[HTK.out,List.map_append]
    exact hsn
   exact⟨⟨j+1,hlt,by go_num,ahb,b6.trans hbel⟩,by simp[intOf];omega⟩
  ·have hjl:j=vs.length:=by omega
   subst hjl
   rw[List.take_length]at hown ⊢
   have hT:=HT.out wr A2 c2 (HM.out.below HON.out.tm hb) hown.ls
   rw[List.length_cons,List.length_map]at hT
   have HTT:=Lib.hid hT
   have HBB:=Lib.hid hb
   rw[List.length_cons,List.length_map]
   clear hT hown hb
   go_wp2_with fail
   refine HTT.out.mono ?_
   rintro e w8 ⟨v,rfl,hv,ht,hf⟩
   have HV:=Lib.hid (Own.lower hv (Nat.le_trans HF.out.size HBB.out.size))
   have HTM:=Lib.hid ht
   have HFF:Hid (Fr (SD F t m) W w8):=Lib.hid ((HF.out.trans (.of_below HBB.out)).trans (hf.more fun k hk=> .inr (.inr hk)))
   clear hv ht hf HTT
   go_wp2
   go_ret2
   exact⟨_,rfl,HV.out,HTM.out,HFF.out⟩
end
end Go.Proofs.YteppebbmnojapaaGreatDoor
namespace Go.Proofs.YteppebbmnojapaaGreatDoor
open Go.RowKit Go.Shelf
namespace Ct
theorem acH{a b:Nat}(ha:a<4294967296)(hb:b<4294967296)(h:Cp.be 4 a=Cp.be 4 b):a=b:=by
 have h1:=Cp.eu (k:=4) (n:=a) (by omega)
 have h2:=Cp.eu (k:=4) (n:=b) (by omega)
 rw[<-h1, <-h2,h]
theorem tJ(i:Nat):(uh i).toList=86::Cp.be 4 i:=by
 rw[Go.Lib.toList_data]
 rfl
theorem X3{a b:Nat}(ha:a<4294967296)(hb:b<4294967296)(h:uh a=uh b):a=b:=by
 have h1:=congrArg ByteArray.toList h
 rw[tJ,tJ]at h1
 injection h1 with _ h1
 exact acH ha hb h1
theorem Ver.Ok.lt{v:Ver}(h:v.Ok):v.id<4294967296:=by have:=h.hi;omega
theorem aag(v:Ver):En.may (uh v.id) (DC v)=true:=by
 have h1:(uh v.id).size=5:=by
  show(86::Cp.be 4 v.id).toArray.size=5
  simp[Cp.au]
 have h2:(DC v).size=12:=by
  show(Cp.be 4 v.par++(Cp.be 4 v.root++Cp.be 4 v.edges)).toArray.size=12
  simp[Cp.au]
 unfold En.may
 rw[h1,h2]
 decide
theorem Lu(v:Ver):∀vs:List Ver,∃vs':List Ver,En.ins (kX v) (vs.map kX)=vs'.map kX/\(∀x,x∈vs' ↔ x=v\/x∈vs)/\vs'.length=vs.length+1
 | []=>⟨[v],rfl,fun x=>by simp,rfl⟩
 |y::l=>by
  rw[List.map_cons,En.ins]
  split
  ·exact⟨v::y::l,rfl,fun x=>by simp,rfl⟩
  ·obtain⟨vs',h1,h2,h3⟩:=Lu v l
   exact⟨y::vs',by rw[h1];rfl,fun x=>by rw[List.mem_cons,h2,List.mem_cons];exact⟨fun h=>by rcases h with h | h | h;exact .inr (.inl h);exact .inl h;exact .inr (.inr h),fun h=>by rcases h with h | h | h;exact .inr (.inl h);exact .inl h;exact .inr (.inr h)⟩,by simp[h3]⟩
theorem LC{i:Nat}(hi:i<4294967296):∀vs:List Ver,(∀x∈vs,x.Ok)->En.del (vs.map kX) (uh i)=(vs.filter fun x=>x.id != i).map kX
 | [],_=>rfl
 |y::l,h=>by
  have ih:=LC hi l fun x hx=>h x (List.mem_cons_of_mem _ hx)
  unfold En.del at ih ⊢
  rw[List.map_cons]
  by_cases he:y.id=i
  ·rw[List.filter_cons_of_neg (by rw[<-he];simp[kX,En.wF]),List.filter_cons_of_neg (by simp[he]),ih]
  ·rw[List.filter_cons_of_pos (by
    rw[Bool.not_eq_true',En.oL]
    exact fun e=>he (X3 (h y List.mem_cons_self).lt hi e)),List.filter_cons_of_pos (by simpa using he),ih]
   rfl
theorem X4{v:Ver}(hv:v.Ok)(vs:List Ver)(h:∀x∈vs,x.Ok)(hn:∀x∈vs,x.id≠v.id):∃vs':List Ver,En.put (vs.map kX) (uh v.id) (DC v)=vs'.map kX/\(∀x,x∈vs' ↔ x=v\/x∈vs)/\vs'.length=vs.length+1:=by
 have hd:=LC hv.lt vs h
 rw[List.filter_eq_self.2 (fun x hx=>by simpa using hn x hx)]at hd
 unfold En.put
 rw[hd]
 exact Lu v vs
theorem yE(vs:List Ver):Tp.Qk (vs.map kX) ⟨#[86]⟩ ⟨#[87]⟩=vs.map kX:=by
 unfold Tp.Qk
 refine List.filter_eq_self.2 fun x hx=> ?_
 obtain⟨v,_,rfl⟩:=List.mem_map.1 hx
 have h1:Tp.inB ⟨#[87]⟩ (kX v)=true:=by
  unfold Tp.inB En.lt kX
  rw[tJ,Go.Lib.toList_data]
  show(_||Go.Op.bytesLess (86::Cp.be 4 v.id) [87])=true
  simp[Go.Op.bytesLess]
 have h2:Tp.ge_ ⟨#[86]⟩ (kX v)=true:=by
  unfold Tp.ge_ En.lt kX
  rw[tJ,Go.Lib.toList_data]
  show(!Go.Op.bytesLess (86::Cp.be 4 v.id) [86])=true
  cases hb:Cp.be 4 v.id<;>simp[Go.Op.bytesLess]
 rw[h1,h2]
 rfl
end Ct
end Go.Proofs.YteppebbmnojapaaGreatDoor
namespace Go.Proofs.YteppebbmnojapaaGreatDoor
open Go.RowKit Go.Shelf Go.Maps
theorem X5{w w':World}{B:Nat}(hT:HT w)(hB:1<B)(h:Below B w w'):HT w':=by
 have hb:=h.mono (show 1+1<=B from hB)
 refine⟨Nat.lt_of_lt_of_le hT.1 hb.size,fun i hi=> ?_⟩
 rw[<-hT.2 i hi]
 exact hb.cell (p:=⟨1,i,none⟩) (Nat.lt_succ_self _)
def hole(disk:Tp.aA)(i:Int):Tp.aA:=fun j=>if j=i then none else disk j
structure TMo(F:aT)(B t m n K:Nat)(fl:List Run)(P:Int)(disk:Tp.aA)(r:Nat)(σ:Tp.Pst)(w:World):Prop where
 eq:σ=Tp.start fl P
 pg:2<=P/\P<=max (n:Int) 2
 few:(Tp.start fl P).free.length<=80000
 low:t<B/\m<B/\B<=w.heap.size
 sep:∀g,F.J6 g->g<B/\g≠t/\g≠m
 base:1<F.B/\F.B<=B
 ht:HT w
 txn:∃k D,Txn w t m F.f n (Tp.start fl P).free P k D/\∀id,Maps.has D (.int .i64 id)=false
 on:BZ F n (Rp.minus [(2,P-1)] fl) disk
 file:∃R:Int,0<=R/\R+(r:Nat)<=900000000000/\F.At w R
 free:∃v,w.cell? ⟨t,1,none⟩=some v/\∀g,v.ownBlock=some g->g<K
section
variable {F:aT}{B t m n K r r':Nat}{fl:List Run}{P:Int}{disk:Tp.aA}{σ:Tp.Pst}{w w':World}{S':Nat->Prop}
theorem TMd.tmo(h:TMd F B t m n (Rp.minus [(2,P-1)] fl) disk r (Tp.start fl P) w):TMo F B t m n w.heap.size fl P disk r (Tp.start fl P) w:=by
 obtain⟨v,hv⟩:=h.tmr.free
 obtain⟨D,h4,h5,_⟩:=h.mem.txn
 have hp:=h.mem.ap.pg
 have hs:=kT h.mem.ap
 exact⟨rfl,⟨hp.1,hp.2.1⟩,hs.1,h.low,fun g hg=>by have:=h.sep g hg;have:=h.low;omega,⟨h.base.1,by have:=h.base;have:=h.low;omega⟩,h.ht,⟨_,D,h4,fun id=>by rw[h5.has];exact decide_eq_false List.not_mem_nil⟩,h.on,h.file,v,hv⟩
def ahc(F:aT)(fl:List Run)(P x:Int):Prop:=iH F.D x none/\(2<=x/\x<P)/\Rp.has (Tp.start fl P).free x=false
end
structure MkF(w0:World)(f0 d0 n N j r t:Nat)(disk:Tp.aA)(fl:List Run)(P:Int)(bad:Int->Prop)(W:World):Prop where
 ex:∃ (F:aT) (B m K:Nat),F.f=f0/\F.d=d0/\F.k+j<maxLen/\FOn F n disk N/\TMo F B t m n K fl P disk r (Tp.start fl P) W/\(B<=K/\K<=W.heap.size)/\(w0.heap.size<=F.B/\m≠F.m)/\∀x,bad x->ahc F fl P x
 below:Below w0.heap.size w0 W
section
variable {w0 W W':World}{f0 d0 n N r r' t u D T K k b0 R0:Nat}{disk:Tp.aA}{fl:List Run}{P root:Int}{es:List Ent}{tok:Nat}{ids:List Int}
structure EC(w0:World)(f0 d0 n N r t:Nat)(disk:Tp.aA)(fl:List Run)(P:Int)(W:World):Prop where
 ex:∃ (F:aT) (B m:Nat),F.f=f0/\F.d=d0/\F.k+1000<maxLen/\FOn F n disk N/\TMd F B t m n (Rp.minus [(2,P-1)] fl) disk r (Tp.start fl P) W/\F.d<B/\w0.heap.size<=m/\w0.heap.size<=F.B
 tl:w0.heap.size<=t
 low:vO disk fl P
 p:2<=P/\P<=n
 below:Below w0.heap.size w0 W
theorem Beg.toF(h:Beg w0 f0 d0 n N r t disk P W):EC w0 f0 d0 n N r t disk [] P W:=⟨h.ex,h.tl,h.low,h.p,h.below⟩
theorem EC.less(h:EC w0 f0 d0 n N r t disk fl P W)(hr:r'<=r):EC w0 f0 d0 n N r' t disk fl P W:=by
 obtain⟨⟨F,B,m,e1,e2,e3,e4,e5,e6⟩,h1,h2,h3,h4⟩:=h
 exact⟨⟨F,B,m,e1,e2,e3,e4,e5.less hr,e6⟩,h1,h2,h3,h4⟩
theorem EC.mk_(h:EC w0 f0 d0 n N r t disk fl P W):MkF w0 f0 d0 n N 1000 r t disk fl P (fun _=>False) W:=by
 obtain⟨⟨F,B,m,e1,e2,e3,e4,e5,e6,e7,e8⟩,h1,h2,h3,h4⟩:=h
 have hm:m≠F.m:=by have:=(e5.sep F.m (.inr (.inr (.inr (.inl rfl))))).2;omega
 exact⟨⟨F,B,m,_,e1,e2,e3,e4,e5.tmo,⟨e5.low.2.2,Nat.le_refl _⟩,⟨e8,hm⟩,fun x hx=>hx.elim⟩,h4⟩
structure pU(w0:World)(f0 d0 n N t u:Nat)(disk:Tp.aA)(fl:List Run)(P:Int)(D T K k b0 R0:Nat)(es:List Ent)(W:World):Prop where
 ex:∃ (F:aT) (a:TAd),F.f=f0/\F.d=d0/\F.k+1000<maxLen/\w0.heap.size<=F.B/\FOn F n disk N/\a.t=t/\a.u=u/\InG w0 F n a (Rp.minus [(2,P-1)] fl) disk P D T K k b0 R0 es W
 low:vO disk fl P
 p:2<=P/\P+D<=n
theorem pU.below(h:pU w0 f0 d0 n N t u disk fl P D T K k b0 R0 es W):Below w0.heap.size w0 W:=by
 obtain⟨⟨F,a,_,_,_,_,_,_,_,h1⟩,_⟩:=h
 exact h1.below
theorem pU.hb(h:pU w0 f0 d0 n N t u disk fl P D T K k b0 R0 es W):b0<=W.heap.size:=by
 obtain⟨⟨F,a,_,_,_,_,_,_,_,h1⟩,_⟩:=h
 exact h1.hb
theorem pU.up(h:pU w0 f0 d0 n N t u disk fl P D T K k b0 R0 es W)(hb:Below W.heap.size W W'):pU w0 f0 d0 n N t u disk fl P D T K k b0 R0 es W':=by
 obtain⟨⟨F,a,e1,e2,e3,e4,e5,e6,e7,h1⟩,h2,h3⟩:=h
 exact⟨⟨F,a,e1,e2,e3,e4,e5,e6,e7,h1.up hb⟩,h2,h3⟩
theorem pU.skip(h:pU w0 f0 d0 n N t u disk fl P D T K k b0 R0 es W):pU w0 f0 d0 n N t u disk fl P D T K (k+1) b0 R0 es W:=by
 obtain⟨⟨F,a,e1,e2,e3,e4,e5,e6,e7,h1⟩,h2,h3⟩:=h
 exact⟨⟨F,a,e1,e2,e3,e4,e5,e6,e7,h1.skip⟩,h2,h3⟩
theorem Gg(D T K:Nat)(h:EC w0 f0 d0 n N (288*K+R0) t disk fl P W)(hn:n<=16384)(hv:Tp.bH disk root es tok ids)(htl:tok<=T)(hTK:T+K<=1000)(hPD:P+D<=n):
  Calls Tryz.prog 18 #[.pointer (some ⟨t,0,none⟩), .int .i64 root] W fun e w'=>∃u,e= .returned (.pointer (some ⟨u,0,none⟩))/\pU w0 f0 d0 n N t u disk fl P D T K 0 w'.heap.size R0 es w'/\Below W.heap.size W w'/\W.heap.size<=u:=by
 obtain⟨⟨F,B,m,e1,e2,e3,e4,e5,e6,e7,e8⟩,h1,h2,h3,h4⟩:=h
 have hdB:F.B<=F.d:=by
  obtain⟨R,_,_,hA⟩:=e5.file
  exact hA.disk.le.1
 refine(Qn (root:=root) e5 e6 hv (by omega) (fun x y h=>by obtain⟨cc,c1,c2⟩:=e4.c;exact(c2 x y h).2.1) hn h2).mono ?_
 rintro e w5 ⟨a,rfl,q1,q2,hst5,hu5,b5⟩
 refine⟨a.u,rfl,⟨⟨F,a,e1,e2,e3,e8,e4,q1,rfl,InG.start (hst5.less (by omega)) (by omega) (Int.le_refl _) (fun x hx=> ?_) (h4.trans (b5.mono h4.size))⟩,h2,h3.1,hPD⟩,b5,hu5⟩
 rcases hx with(rfl | rfl | rfl) | rfl
 ·rw[q1];exact h1
 ·rw[q2];exact e7
 ·omega
 ·exact Nat.le_trans h4.size hu5
theorem X6(h:pU w0 f0 d0 n N t u disk fl P D T K k b0 R0 es W)(hk:k<K)(hT:T+K<=1000)(hD:6*(T+K)+90<=5*D){s v:ByteArray}(hm:En.may s v=true):
  Calls Tryz.prog 65 #[.pointer (some ⟨u,0,none⟩), .string s, .string v] W fun e W'=>e= .returned (.int .i64 0)/\pU w0 f0 d0 n N t u disk fl P D T K (k+1) b0 R0 (En.put es s v) W'/\lQ W W':=by
 obtain⟨⟨F,a,e1,e2,e3,e4,e5,e6,rfl,h1⟩,h2,h3⟩:=h
 refine(Iz h1 hk hT hD (qA h3.1 fl) h3.2 hm).mono ?_
 rintro e W' ⟨rfl,g1,g2,g3⟩
 exact⟨rfl,⟨⟨F,a,e1,e2,e3,e4,e5,e6,rfl,g1⟩,h2,h3⟩,g3⟩
theorem X7(h:pU w0 f0 d0 n N t u disk fl P D T K k b0 R0 es W)(hk:k<K)(hT:T+K<=1000)(hD:6*(T+K)+90<=5*D)(s:ByteArray):
  Calls Tryz.prog 62 #[.pointer (some ⟨u,0,none⟩), .string s] W fun e W'=>∃b:Bool,e= .returned (.tuple #[.bool b, .int .i64 0])/\pU w0 f0 d0 n N t u disk fl P D T K (k+1) b0 R0 (En.del es s) W'/\lQ W W':=by
 obtain⟨⟨F,a,e1,e2,e3,e4,e5,e6,rfl,h1⟩,h2,h3⟩:=h
 refine(Z5 h1 hk hT hD (qA h3.1 fl) h3.2 s).mono ?_
 rintro e W' ⟨b,rfl,g1,g2,g3⟩
 exact⟨b,rfl,⟨⟨F,a,e1,e2,e3,e4,e5,e6,rfl,g1⟩,h2,h3⟩,g3⟩
structure ED(w0:World)(f0 d0 n N r t:Nat)(disk:Tp.aA)(fl:List Run)(P:Int)(W:World):Prop where
 ex:∃ (F:aT) (m k:Nat) (D:DataW Value),F.f=f0/\F.d=d0/\F.k+1000<maxLen/\gY F n disk N r W/\w0.heap.size<=F.B/\Txn W t m F.f n fl P k D/\m≠F.m
 low:vO disk fl P
 p:2<=P/\P<=n
 few:fl.length<=50000
 below:Below w0.heap.size w0 W
theorem ED.below_(h:ED w0 f0 d0 n N r t disk fl P W)(hb:Below W.heap.size W W'):ED w0 f0 d0 n N r t disk fl P W':=by
 obtain⟨⟨F,m,k,D,e1,e2,e3,e4,e5,e6,e7⟩,h1,h2,h3,h4⟩:=h
 exact⟨⟨F,m,k,D,e1,e2,e3,e4.below hb,e5,e6.below hb,e7⟩,h1,h2,h3,h4.trans (hb.mono h4.size)⟩
theorem ED.row{b:Nat}{v:Value}{l:List Int}(h:ED w0 f0 d0 n N r t disk fl P W)(ho:LO aV 3 W b v l)(hb:w0.heap.size<=b)(h0:1<w0.heap.size)(hg:W.grownBy W' v.ownBlock):ED w0 f0 d0 n N r t disk fl P W':=by
 obtain⟨⟨F,m,k,D,e1,e2,e3,e4,e5,e6,e7⟩,h1,h2,h3,h4⟩:=h
 refine⟨⟨F,m,k,D,e1,e2,e3,e4.fr (Fr.bW hg) (fun g hgB hS=> ?_) (fun hS=> ?_),e5,e6.fr (Fr.bW hg) (fun g a o hk=> ?_),e7⟩,h1,h2,h3,h4.trans ((Below.refl _ W).grown hg h4.size (fun k e=>Nat.le_trans hb (World.ownsRow.lt ho k e).1))⟩
 ·obtain⟨cs,hB⟩:=fG ho hS
  exact e4.ag1 hB (by decide) (by decide) (by decide) (by decide) hgB
 ·have:=(World.ownsRow.lt ho 1 hS).1
  omega
 ·obtain⟨cs,hcs⟩:=fG ho a
  have e:o= .cells cs 3:=by have:=hk.symm.trans hcs;injection this
  subst e
  exact⟨fun cs' e=>by injection e with _ e;revert e;decide,fun cs' e=>by injection e with _ e;revert e;decide,fun cs' e=>by injection e with _ e;revert e;decide,fun cs' e=>by injection e with _ e;revert e;decide,fun _ _ e=>by cases e⟩
theorem Us(h:ED w0 f0 d0 n N r t disk fl P W):Calls Tryz.prog 77 #[.pointer (some ⟨t,0,none⟩)] W (gW fl W):=by
 obtain⟨⟨F,m,k,D,e1,e2,e3,e4,e5,e6,e7⟩,h1,h2,h3,h4⟩:=h
 exact QX t m F.f n k fl P D W e6 (by omega)
theorem OV(h:ED w0 f0 d0 n N r t disk fl P W):Calls Tryz.prog 17 #[.pointer (some ⟨t,0,none⟩)] W fun e w'=>e= .returned (.int .i64 P)/\w'=W:=by
 obtain⟨⟨F,m,k,D,e1,e2,e3,e4,e5,e6,e7⟩,h1,h2,h3,h4⟩:=h
 exact MV t m F.f n k fl P D W e6
theorem X8(h:ED w0 f0 d0 n N r t disk fl P W)(hN:N<1000000)(A:Option Addr)(c:Nat)(hr:RS W W.heap.size A fl):
  Calls Tryz.prog 14 #[.pointer (some ⟨f0,0,none⟩), .slice A fl.length c, .int .i64 P] W fun e w'=>∃t',e= .returned (.pointer (some ⟨t',0,none⟩))/\EC w0 f0 d0 n N r t' disk fl P w'/\Below W.heap.size W w':=by
 obtain⟨⟨F,m,k,D,rfl,rfl,e3,e4,e5,e6,_⟩,h1,h2,h3,h4⟩:=h
 refine(Dt e4 hN A c fl P P (by unfold iD;omega) hr h3 h1).mono ?_
 rintro e w' ⟨t',m',rfl,hM,⟨q1,q2,q3⟩,b⟩
 exact⟨t',rfl,⟨⟨F,_,m',rfl,rfl,e3,e4.on,hM,q3,Nat.le_trans h4.size q2,e5⟩,Nat.le_trans h4.size q1,h1,h2,h4.trans (b.mono h4.size)⟩,b⟩
def GfF(w0:World)(f0 d0 n N t u:Nat)(disk:Tp.aA)(P:Int)(D T K R0:Nat)(es:List Ent)(W:World)(e:Ending)(w':World):Prop:=
 e= .returned (.int .i64 0)/\∃ (bg:Tp.aA) (root P':Int) (fl':List Run) (tok:Nat) (ids:List Int),ED w0 f0 d0 n (N+600) R0 t bg fl' P' w'/\tok<=T+K/\P'<=P+D/\Tp.bH bg root es tok ids/\
  (∀ (root':Int) (es':List Ent) (oz:Nat) (dQ:List Int),Tp.bH disk root' es' oz dQ->Tp.bH bg root' es' oz dQ)/\lQ W w'/\
  Calls Tryz.prog 29 #[.pointer (some ⟨u,0,none⟩)] w' fun e w''=>e= .returned (.int .i64 root)/\w''=w'
theorem OW(h:pU w0 f0 d0 n N t u disk fl P D T K k b0 R0 es W)(hk:k<=K)(hN:N+2000<90000)(hT:T+K<=480):
  Calls Tryz.prog 16 #[.pointer (some ⟨t,0,none⟩)] W (GfF w0 f0 d0 n N t u disk P D T K R0 es W):=by
 obtain⟨⟨F,a,e1,e2,e3,e4,e5,rfl,rfl,h1⟩,hl,h3⟩:=h
 obtain⟨root,σ,ids,tok,hst,htk,hpg⟩:=h1.at_
 have hb:=h1.below
 have m2:=hst.rt.few
 have m3:=hst.Au
 have hpp:=hst.ap.pg
 refine(OH (N:=N) (hst.less (r':=R0) (by omega)) e5 hN e3 (by omega)).mono ?_
 rintro e w' ⟨rfl,F',bg,hfl⟩
 obtain⟨f1,f2,f3,f4⟩:=hfl.same
 have hsz:F'.D.sure.length=n:=by obtain⟨cc,c1,c2⟩:=hfl.ready.on.c;exact c1.ok.size
 obtain⟨R,_,_,hA⟩:=hfl.ready.file
 obtain⟨m,k',D',hx,hxm⟩:=hfl.tx.acy hA hsz
 refine⟨rfl,bg,root,σ.pages,σ.free,tok,ids,⟨⟨F',m,k',D',by rw[f2,e1],by rw[f3,e2],by rw[f4];decide,⟨?_,hfl.ready.file,hfl.ready.ht,hfl.ready.b0,hfl.ready.bw⟩,by rw[f1];exact e4,hx,hxm⟩,hfl.low,⟨hpp.1,by omega⟩,hfl.fl,hb.trans (hfl.below.mono e4)⟩,by omega,hpg,hfl.ver,hfl.old,hfl.Qq,pK a.u root 0 w' hfl.self⟩
 obtain⟨q1,q2,q3,q4⟩:=hfl.ready.on
 exact⟨q1,q2,⟨q3.1,by omega⟩,by omega⟩
end
section
variable {w0 W W':World}{f0 d0 n N j r r' t:Nat}{disk:Tp.aA}{fl:List Run}{P i:Int}{bad:Int->Prop}{rs all:List Int}
def jL(disk:Tp.aA)(rs:List Int):Prop:=∀x∈rs,∃es tok ids,Tp.bH disk x es tok ids/\tok<=480
def acI(disk:Tp.aA)(rs:List Int)(g:Int->List Int):Prop:=∀x∈rs,(∃es tok,Tp.bH disk x es tok (g x))/\(g x).length<=600
theorem jL.g{disk:Tp.aA}{rs:List Int}(h:jL disk rs):∃g,acI disk rs g:=by
 have h1:∀x,∃ids,x∈rs->(∃es tok,Tp.bH disk x es tok ids)/\ids.length<=600:=fun x=>by
  by_cases hx:x∈rs
  ·obtain⟨es,tok,ids,q1,q2⟩:=h x hx
   have:=(kF q1).1
   exact⟨ids,fun _=>⟨⟨es,tok,q1⟩,by omega⟩⟩
  ·exact⟨[],fun h=>absurd h hx⟩
 exact⟨fun x=>Classical.choose (h1 x),fun x hx=>Classical.choose_spec (h1 x) hx⟩
theorem acI.yF{disk:Tp.aA}{rs l:List Int}{g:Int->List Int}(h:acI disk rs g)(hs:∀x∈l,x∈rs):AllOf disk l (l.flatMap g)/\(l.flatMap g).length<=600*l.length:=by
 refine⟨⟨fun x hx=> ?_,fun x hx=> ?_⟩, ?_⟩
 ·obtain⟨r,hr,hx⟩:=List.mem_flatMap.1 hx
  obtain⟨⟨es,tok,q⟩,_⟩:=h r (hs r hr)
  exact⟨r,es,tok,g r,hr,q,hx,fun y hy=>List.mem_flatMap.2 ⟨r,hr,hy⟩⟩
 ·obtain⟨⟨es,tok,q⟩,_⟩:=h x (hs x hx)
  rcases q with⟨a,_,_⟩ | ⟨hh,s,a,b,c,d,ht,f⟩
  ·exact .inl a
  ·refine .inr (List.mem_flatMap.2 ⟨x,hx, ?_⟩)
   rw[<-b, <-a]
   exact Tp.o9 ht
 ·induction l with
  |nil=>simp
  |cons x l ih=>
   have h1:=ih fun y hy=>hs y (List.mem_cons_of_mem _ hy)
   have h2:=(h x (hs x List.mem_cons_self)).2
   rw[List.flatMap_cons,List.length_append,List.length_cons]
   omega
theorem MkF.view(h:MkF w0 f0 d0 n N j r t disk fl P bad W){x:Int}{y:Nd.Node}(hx:disk x=some y):(Tp.start fl P).view disk x=some y/\(2<=x/\x<P/\x<=16384)/\Rp.has (Tp.start fl P).free x=false/\Nd.fits y=true:=by
 obtain⟨⟨F,B,m,K,e1,e2,e3,e4,e5,e6,e7,e8⟩,h1⟩:=h
 obtain⟨q1,q2,q3⟩:=e5.on.page _ _ hx
 obtain⟨a1,a2,a3,a4⟩:=((Rp.iY [(2,P-1)] fl).2 x).1 q2
 have h2:=Rp.nN.1 a3
 have hp:=e5.pg
 have hn:=e5.on.n
 have hv:=Tp.Dq (disk:=disk) (l:=fl) h2.1 h2.2 a4
 refine⟨hv.trans hx,⟨h2.1,h2.2,by omega⟩,Rp.qW fun hm=>a4 (((Rp.lS fl [(2,P-1)]).2 x).1 hm).2.2.1,q1⟩
theorem ng{w w':World}{base:Nat}{v:Value}{l:List Run}(hl:Own w base v l)(hk:Kept w w'):Own w' base v l:=by
 rcases hl with⟨h4,h5 | ⟨g,cap,cur,hv,hb,hh,q⟩⟩
 ·exact⟨h4, .inl h5⟩
 ·exact⟨h4, .inr ⟨g,cap,cur,hv,hb,hk g 64 _ hh (by decide) (by decide),q⟩⟩
end
end Go.Proofs.YteppebbmnojapaaGreatDoor
namespace Go.Proofs.YteppebbmnojapaaGreatDoor
open Go.RowKit Go.ChangeShapes Go.WideShapes Go.Deep
section
variable {H:Type}{enc:TypeId × Value->H}{P:Program}{w:World}{base:Nat}{spare:Nat->Bool}{held:Bool}
theorem jM{t e:TypeId}{fs:Array Field}{fuel:Nat}{cs:List Value}{x:DataW H × List MemPlace}(ht:P.underlying t=some (.slice e))(he:P.underlying e=some (.struct fs))
  (hone:oneCellFields P fs=true) (hC:P.cellsOf e=fs.size) (h:DataW.trod enc P w base spare held fuel t cs=some x):
  (cs= [.slice none 0 0]/\x=(.nil, []))\/
  ∃ (a:Addr) (len cap m:Nat) (D:Nat->DataW H) (Pl:Nat->List MemPlace),cs= [.slice (some a) len cap]/\base<=a.block/\len<=cap/\cap<=maxLen/\m=(if spare a.block then cap else len)/\
   x=(.slice ((List.range len).map D) ((List.range (m-len)).map fun j=>D (len+j)),MemPlace.row a (m*fs.size)++(List.range m).flatMap Pl)/\
   ∀i,i<m->∃ (ys:List (DataW H × List MemPlace)) (n:Nat),D i= .agg (ys.map (·.1))/\Pl i=ys.flatMap (·.2)/\ys.length=fs.size/\
    ∀ (j:Nat) (f:Field),fs[j]? =some f->∃ (v:Value) (y:DataW H × List MemPlace),w.cell? (a.add (i*fs.size+j))=some v/\ys[j]? =some y/\DataW.trod enc P w base spare held n f.type [v]=some y:=by
 rcases open_slice ht h with h0 | ⟨a,len,cap,m,n,D,Pl,hcs,hb,hl,hm,hmm,hx,hi⟩
 ·exact .inl h0
 ·refine .inr ⟨a,len,cap,m,D,Pl,hcs,hb,hl,hm,hmm,by rw[hC]at hx;exact hx,fun i him=> ?_⟩
  obtain⟨cs',hc,ht'⟩:=hi i him
  rw[hC]at hc
  obtain⟨ys,n',hn',hy,hlen,hyl,hf⟩:=DataW.trod_struct he ht'
  obtain⟨_,hcl,hat⟩:=World.cells?_some hc
  simp only[Prod.mk.injEq]at hy
  refine⟨ys,n',hy.1,hy.2,hyl,fun j f hj=> ?_⟩
  obtain⟨ho,hk⟩:=hone_of hone j f hj
  have hjl:j<fs.size:=(Array.getElem?_eq_some_iff.1 hj).1
  have hcell:=hat j hjl
  have hv:cs'[j]? =some (cs'[j]'(by omega)):=List.getElem?_eq_getElem (by omega)
  have h1:=hf j f hj
  rw[ho,hk]at h1
  have hone':(cs'.drop j).take 1= [cs'[j]'(by omega)]:=by
   rw[List.drop_eq_getElem_cons (by omega)]
   rfl
  rw[hone']at h1
  have hys:ys[j]? =some (ys[j]'(by omega)):=List.getElem?_eq_getElem (by omega)
  refine⟨_,_, ?_,hys,h1.trans hys⟩
  rw[<-Go.Deep.add_add,hcell,hv]
end
section
variable {H:Type}{enc:TypeId × Value->H}
theorem DF{W:World}{A:Option Addr}{len cap:Nat}{d:DataW H}{p:List MemPlace}(h:DataW.Trod enc Tryz.prog W 0 (fun _=>true) true 22 (.slice A len cap) d p):
  ∃l:List Ent,l.length=len/\LS bD W W.heap.size A l:=by
 obtain⟨fuel,hf⟩:=h
 rcases jM Tryz.underlying22 Tryz.underlying101 (by kernel_rfl) (by kernel_rfl) hf with⟨hcs,_⟩ | ⟨a,len',cap',m,D,Pl,hcs,_,hl,hm,hmm,hx,hi⟩
 ·simp[Value.cells]at hcs
  obtain⟨rfl,rfl,rfl⟩:=hcs
  exact⟨[],rfl,LS.nil_⟩
 ·simp[Value.cells]at hcs
  obtain⟨rfl,rfl,rfl⟩:=hcs
  simp only[if_true]at hmm
  subst hmm
  have key:∀i,∃r:Ent,i<len->(W.cell? (a.add (i*2))=some (.string r.1)/\W.cell? (a.add (i*2+1))=some (.string r.2)):=by
   intro i
   by_cases hil:i<len
   ·obtain⟨ys,n,_,_,hys,hfld⟩:=hi i (by omega)
    obtain⟨v0,y0,hc0,_,t0⟩:=hfld 0 _ rfl
    obtain⟨v1,y1,hc1,_,t1⟩:=hfld 1 _ rfl
    obtain⟨x0,e0,_⟩:=DataW.trod_string Tryz.underlying9 t0
    obtain⟨x1,e1,_⟩:=DataW.trod_string Tryz.underlying9 t1
    simp at e0 e1
    subst e0 e1
    exact⟨⟨x0,x1⟩,fun _=>⟨hc0,hc1⟩⟩
   ·exact⟨⟨⟨#[]⟩,⟨#[]⟩⟩,fun h=>absurd h hil⟩
  obtain⟨f,hfs⟩:∃f:Nat->Ent,∀i,i<len->(W.cell? (a.add (i*2))=some (.string (f i).1)/\W.cell? (a.add (i*2+1))=some (.string (f i).2)):=⟨fun i=>Classical.choose (key i),fun i=>Classical.choose_spec (key i)⟩
  clear key
  refine⟨(List.range len).map f,by simp,⟨bD.dR _,fun hpos=>⟨a,rfl, ?_, ?_⟩⟩⟩
  ·have:=(hfs 0 (by simpa using hpos)).1
   have hb:=World.block_lt_of_cell? W _ this
   rwa [jD]at hb
  ·intro j u hu
   have hjl:j<len*2:=by
    have:=(List.getElem?_eq_some_iff.1 hu).1
    rw[bD.dR]at this;simpa[bD]using this
   have h0:=bD.cells_at ((List.range len).map f) (j / 2) (by simp;omega) (j % 2) (by show j % 2<2;omega)
   have e:j / 2*bD.size+j % 2=j:=by show j / 2*2+j % 2=j;omega
   rw[e,hu]at h0
   simp only[List.getElem_map,List.getElem_range]at h0
   have hs:=hfs (j / 2) (by omega)
   have hm:j % 2=0\/j % 2=1:=by omega
   rcases hm with hm | hm
   ·rw[hm]at h0;injection h0 with h0;subst h0;rw[<-hs.1,show j / 2*2=j by omega]
   ·rw[hm]at h0;injection h0 with h0;subst h0;rw[<-hs.2,show j / 2*2+1=j by omega]
end
abbrev Sl:=Option Addr × Nat × Nat
def slE:Enc Sl:=⟨fun x=> [.slice x.1 x.2.1 x.2.2],1,fun _=>rfl,by decide,fun x u hu=>by simp at hu;subst hu;rfl⟩
theorem LS.sl{w:World}{B:Nat}{A:Option Addr}{l:List Sl}(h:LS slE w B A l){k:Nat}(hk:k<l.length):∃b off,A=some ⟨b,off,none⟩/\b<B/\w.cell? ⟨b,off+k,none⟩=some (.slice l[k].1 l[k].2.1 l[k].2.2):=by
 obtain⟨b,off,rfl,hb,hc⟩:=h.at_ hk
 have h0:=hc 0 (by decide)
 exact⟨b,off,rfl,hb,by simpa[slE]using h0⟩
section
variable {H:Type}{enc:TypeId × Value->H}
theorem OX{W:World}{A:Option Addr}{len cap:Nat}{d:DataW H}{p:List MemPlace}(h:DataW.Trod enc Tryz.prog W 0 (fun _=>true) true 46 (.slice A len cap) d p):
  ∃ (l:List Sl) (f:List (List Ent)),l.length=len/\f.length=len/\LS slE W W.heap.size A l/\∀i (h1:i<l.length) (h2:i<f.length),f[i].length=l[i].2.1/\LS bD W W.heap.size l[i].1 f[i]:=by
 obtain⟨fuel,hf⟩:=h
 rcases DataW.trod_slice Tryz.underlying46 hf with⟨hcs,_⟩ | ⟨a,len',cap',elems,rest,n,_,hcs,_,hb,hl,hm,hlen,hel,hsp,hns⟩
 ·simp[Value.cells]at hcs
  obtain⟨rfl,rfl,rfl⟩:=hcs
  exact⟨[], [],rfl,rfl,LS.nil_,fun i h=>absurd h (by simp)⟩
 ·simp[Value.cells]at hcs
  obtain⟨rfl,rfl,rfl⟩:=hcs
  have c1:Tryz.prog.cellsOf 22=1:=by kernel_rfl
  have key:∀i,∃r:Sl × List Ent,i<len->W.cell? (a.add i)=some (.slice r.1.1 r.1.2.1 r.1.2.2)/\r.2.length=r.1.2.1/\LS bD W W.heap.size r.1.1 r.2:=by
   intro i
   by_cases hil:i<len
   ·have h1:=hel i hil
    rw[c1,Nat.mul_one,List.getElem?_eq_getElem (by omega),Option.bind_eq_some_iff]at h1
    obtain⟨cs',hcs,hy⟩:=h1
    have hy':=hy
    rcases DataW.trod_slice Tryz.underlying22 hy with⟨rfl,_⟩ | ⟨a',l',c',_,_,_,_,rfl,_⟩
    ·obtain⟨q,q1,q2⟩:=DF (A:=none) (len:=0) (cap:=0) (d:=(elems[i]'(by omega)).1) (p:=(elems[i]'(by omega)).2) (enc:=enc) ⟨n,hy'⟩
     exact⟨((none,0,0),q),fun _=>⟨cell_of_cells?_one hcs,q1,q2⟩⟩
    ·obtain⟨q,q1,q2⟩:=DF (A:=some a') (len:=l') (cap:=c') (d:=(elems[i]'(by omega)).1) (p:=(elems[i]'(by omega)).2) (enc:=enc) ⟨n,hy'⟩
     exact⟨((some a',l',c'),q),fun _=>⟨cell_of_cells?_one hcs,q1,q2⟩⟩
   ·exact⟨((none,0,0), []),fun h=>absurd h hil⟩
  obtain⟨g,hg⟩:∃g:Nat->Sl × List Ent,∀i,i<len->W.cell? (a.add i)=some (.slice (g i).1.1 (g i).1.2.1 (g i).1.2.2)/\(g i).2.length=(g i).1.2.1/\LS bD W W.heap.size (g i).1.1 (g i).2:=⟨fun i=>Classical.choose (key i),fun i=>Classical.choose_spec (key i)⟩
  clear key
  refine⟨(List.range len).map fun i=>(g i).1,(List.range len).map fun i=>(g i).2,by simp,by simp,⟨slE.dR _,fun hpos=>⟨a,rfl, ?_, ?_⟩⟩, ?_⟩
  ·have:=(hg 0 (by simpa using hpos)).1
   have hb:=World.block_lt_of_cell? W _ this
   rwa [jD]at hb
  ·intro j u hu
   have hjl:j<len:=by
    have:=(List.getElem?_eq_some_iff.1 hu).1
    rw[slE.dR]at this;simpa[slE]using this
   have h0:=slE.cells_at ((List.range len).map fun i=>(g i).1) j (by simp;omega) 0 (by decide)
   have e:j*slE.size+0=j:=by show j*1+0=j;omega
   rw[e,hu]at h0
   simp only[List.getElem_map,List.getElem_range]at h0
   exact((hg j hjl).1).trans (show some (Value.slice (g j).1.1 (g j).1.2.1 (g j).1.2.2)=some u from h0.symm)
  ·intro i h1 h2
   simp only[List.getElem_map,List.getElem_range]
   exact(hg i (by simpa using h1)).2
end
end Go.Proofs.YteppebbmnojapaaGreatDoor
namespace Go.Proofs.YteppebbmnojapaaGreatDoor
open Go.RowKit Go.Shelf
def ae0(rl:List Sl)(w:World)(e:Ending)(w':World):Prop:=∃b:Bool,e= .returned (.bool b)/\w'=w/\(b=false->rl.length<=8/\∀i (h:i<rl.length),rl[i].2.1<=60)
theorem OY(A:Option Addr)(c:Nat)(rl:List Sl)(fl:List (List Ent))(w:World)(hr:LS slE w w.heap.size A rl)(hlen:fl.length=rl.length)(hx:∀i (h1:i<rl.length) (h2:i<fl.length),fl[i].length=rl[i].2.1/\LS bD w w.heap.size rl[i].1 fl[i]):
  Calls Tryz.prog 24 #[.slice A rl.length c] w (ae0 rl w):=by
 by_cases hn:8<rl.length
 ·have h1:(8:Int)<(rl.length:Nat):=by omega
  clear hr hx
  go_enter Tryz.func24,Tryz.ntmps24
  go_wp2
  go_ret
  exact⟨true,rfl,rfl,fun h=>by cases h⟩
 ·have h1:¬ (8:Int)<(rl.length:Nat):=by omega
  have HR:=Lib.hid hr
  have HX:=Lib.hid hx
  have HLN:=Lib.hid hlen
  clear hr hx hlen
  go_enter Tryz.func24,Tryz.ntmps24
  go_wp2
  go_loopg [3] rl.length (fun g s3 wr=>∃k:Nat,s3= .int .i64 (k:Nat)/\k<=rl.length/\rl.length-k<=g/\wr=w/\Hid (∀i (h:i<rl.length),i<k->rl[i].2.1<=60))
  case atStart=>exact⟨0,rfl,Nat.zero_le _,by omega,rfl,Lib.hid (fun i _ h=>absurd h (Nat.not_lt_zero _))⟩
  case round=>
   obtain⟨k,rfl,hkl,hkg,rfl,HK⟩:=hrel
   have hwk:IntKind.i64.wrap ((k:Int)+1)=(k:Int)+1:=IntWalk.i64_in _ (by omega)
   by_cases hk:k<rl.length
   ·obtain⟨b,off,rfl,hb,c0⟩:=HR.out.sl hk
    obtain⟨x1,x2⟩:=HX.out k hk (by rw[HLN.out];exact hk)
    have hki:(k:Int)<(rl.length:Nat):=by omega
    have HK1:Hid (rl[k].2.1<=60->∀i (h:i<rl.length),i<k+1->rl[i].2.1<=60):=Lib.hid fun h0 i h hi=>by
     rcases Nat.lt_or_ge i k with h2 | h2
     ·exact HK.out i h h2
     ·obtain rfl:i=k:=by omega
      exact h0
    have HL:=Lib.hid x2
    have hfk:k<fl.length:=by rw[HLN.out];exact hk
    generalize hfl:fl[k]=l at*
    generalize rl[k]=r at*
    obtain⟨Ar,n,cr⟩:=r
    simp only at x1 c0 HK1 HL
    subst x1
    clear x2 hfl
    by_cases w1:60<l.length
    ·have d1:(60:Int)<(l.length:Nat):=by omega
     go_wp2
     go_ret
     exact⟨true,rfl,rfl,fun h=>by cases h⟩
    ·have d1:¬ (60:Int)<(l.length:Nat):=by omega
     have HK2:=Lib.hid (HK1.out (by omega))
     clear HK1 HK
     go_wp2
     go_loopg [4] l.length (fun g s4 wx=>∃j:Nat,s4= .int .i64 (j:Nat)/\j<=l.length/\l.length-j<=g/\wx=wr)
     case atStart=>exact⟨0,rfl,Nat.zero_le _,by omega,rfl⟩
     case round=>
      obtain⟨j,rfl,hjl,hjg,rfl⟩:=hrel
      have hwj:IntKind.i64.wrap ((j:Int)+1)=(j:Int)+1:=IntWalk.i64_in _ (by omega)
      by_cases hj:j<l.length
      ·have hji:(j:Int)<(l.length:Nat):=by omega
       obtain⟨b2,o2,rfl,hb2,e0,e1⟩:=HL.out.ent hj
       generalize l[j]=x at*
       by_cases w2:60<x.1.size
       ·have d2:(60:Int)<(x.1.size:Nat):=by omega
        go_wp2
        go_ret
        exact⟨true,rfl,rfl,fun h=>by cases h⟩
       ·have d2:¬ (60:Int)<(x.1.size:Nat):=by omega
        by_cases w3:60<x.2.size
        ·have d3:(60:Int)<(x.2.size:Nat):=by omega
         go_wp2
         go_ret
         exact⟨true,rfl,rfl,fun h=>by cases h⟩
        ·have d3:¬ (60:Int)<(x.2.size:Nat):=by omega
         go_wp2
         go_roundg (l.length-(j+1))
         case measure=>omega
         case rel=>exact⟨j+1,by go_num,by omega,Nat.le_refl _,rfl⟩
      ·obtain rfl:j=l.length:=by omega
       have hji:¬ (l.length:Int)<(l.length:Nat):=by omega
       go_wp2
       go_roundg (rl.length-(k+1))
       case measure=>omega
       case rel=>exact⟨k+1,by go_num,by omega,Nat.le_refl _,rfl,HK2⟩
   ·obtain rfl:k=rl.length:=by omega
    have hki:¬ (rl.length:Int)<(rl.length:Nat):=by omega
    go_wp2
    go_ret
    exact⟨false,rfl,rfl,fun _=>⟨by omega,fun i h=>HK.out i h h⟩⟩
end Go.Proofs.YteppebbmnojapaaGreatDoor
namespace Go.Proofs.YteppebbmnojapaaGreatDoor
open Go.RowKit Go.Shelf Go.Maps
def pr(i:Nat):Int:=2+36*(i:Int)*((i:Int)+1)+18*(i:Int)
theorem aah{i:Nat}(h:i<8):pr i+(72*i+90:Nat)=pr (i+1)/\pr (i+1)<=2738:=by
 have:i=0\/i=1\/i=2\/i=3\/i=4\/i=5\/i=6\/i=7:=by omega
 rcases this with rfl | rfl | rfl | rfl | rfl | rfl | rfl | rfl<;>decide
theorem jL.snoc{disk bg:Tp.aA}{rs:List Int}{root:Int}{es:List Ent}{tok:Nat}{ids:List Int}(h:jL disk rs)(ho:∀ (root':Int) (es':List Ent) (oz:Nat) (dQ:List Int),Tp.bH disk root' es' oz dQ->Tp.bH bg root' es' oz dQ)(hv:Tp.bH bg root es tok ids)(ht:tok<=480):jL bg (rs++ [root]):=fun x hx=>by
 rcases List.mem_append.1 hx with hx | hx
 ·obtain⟨a,b,c,q1,q2⟩:=h x hx
  exact⟨a,b,c,ho _ _ _ _ q1,q2⟩
 ·rw[List.mem_singleton.1 hx]
  exact⟨es,tok,ids,hv,ht⟩
structure acJ(w0:World)(f0 d0 i t:Nat)(root:Int)(rs:List Int)(Ar:Option Addr)(cr:Nat)(W:World):Prop where
 ex:∃disk fl P N es tok ids,EC w0 f0 d0 3000 N (300000+(8-i)*20000) t disk fl P W/\N<=600*i/\Tp.bH disk root es tok ids/\tok<=60*i/\jL disk rs/\P<=pr i
 len:rs.length=i
 row:LO aV 3 W w0.heap.size (.slice Ar rs.length cr) rs
def aa0(w0:World)(f0 d0 n:Nat)(e:Ending)(w':World):Prop:=
 ∃ (Ar:Option Addr) (cr:Nat) (rs:List Int) (t:Nat) (disk:Tp.aA) (fl:List Run) (P:Int) (N:Nat),e= .returned (.tuple #[.slice Ar rs.length cr, .pointer (some ⟨t,0,none⟩), .bool true])/\EC w0 f0 d0 3000 N 300000 t disk fl P w'/\N<=4800/\jL disk rs/\rs.length=n/\P<=2738/\LO aV 3 w' w0.heap.size (.slice Ar rs.length cr) rs
theorem LD(A:Option Addr)(c:Nat)(rl:List Sl)(fl:List (List Ent))(w0 w:World)(f d:Nat)(hst:Stg w0 f d 3000 0 500000 Di 2 w)(hr:LS slE w0 w0.heap.size A rl)(hlen:fl.length=rl.length)(hx:∀i (h1:i<rl.length) (h2:i<fl.length),fl[i].length=rl[i].2.1/\LS bD w0 w0.heap.size rl[i].1 fl[i])(h8:rl.length<=8)(h60:∀i (h:i<rl.length),rl[i].2.1<=60)(h00:1<w0.heap.size):
  Calls Tryz.prog 25 #[.pointer (some ⟨f,0,none⟩), .slice A rl.length c] w (aa0 w0 f d rl.length):=by
 have HNW:=Lib.hid (Qr hst (by decide))
 have HRS:=Lib.hid hr
 have HRL:=Lib.hid hx
 have H60:=Lib.hid h60
 clear hst hr hx h60
 go_enter Tryz.func25,Tryz.ntmps25
 go_wp2_with fail
 refine Calls.mono HNW.out ?_
 rintro e w3 ⟨t,rfl,hbg,b3⟩
 have HS0:Hid (acJ w0 f d 0 t 0 [] none 0 w3):=Lib.hid ⟨⟨Di, [],2,0, [],0, [],hbg.toF.less (by omega),Nat.le_refl _,Tp.bH.none_ _ _,Nat.le_refl _,fun x hx=>absurd hx List.not_mem_nil,by decide⟩,rfl,LO.nil_ _ _⟩
 clear hbg b3 HNW
 go_wp2
 go_loopg [7,8,9,10] rl.length (fun gg s7 s8 s9 s10 wr=>∃ (i t:Nat) (root:Int) (rs:List Int) (Ar:Option Addr) (cr:Nat),s7= .slice Ar rs.length cr/\s8= .int .i64 root/\s9= .pointer (some ⟨t,0,none⟩)/\s10= .int .i64 (i:Nat)/\i<=rl.length/\rl.length-i<=gg/\Hid (acJ w0 f d i t root rs Ar cr wr))
 case atStart=>exact⟨0,t,0, [],none,0,rfl,rfl,rfl,rfl,Nat.zero_le _,by omega,HS0⟩
 case round=>
  clear HS0
  obtain⟨i,t,root,rs,Ar,cr,rfl,rfl,rfl,rfl,hil,hig,HS⟩:=hrel
  have hwi:IntKind.i64.wrap ((i:Int)+1)=(i:Int)+1:=IntWalk.i64_in _ (by omega)
  by_cases hi:i<rl.length
  ·have hii:(i:Int)<(rl.length:Nat):=by omega
   have hif:i<fl.length:=by omega
   obtain⟨e1,e2⟩:=HRL.out i hi hif
   have ahd:=H60.out i hi
   obtain⟨bb,oo,rfl,hbb,g00⟩:=HRS.out.sl hi
   obtain⟨⟨disk,frl,P,N,es,tok,ids,hst,hN,X9,htok,hrs,hpp⟩,hlr,hrow⟩:=HS.out
   generalize fl[i]=li at*
   generalize rl[i]=sl at*
   obtain⟨Ai,ni,ci⟩:=sl
   simp only at e1 e2 g00 ahd
   subst e1
   have hi8:i<8:=by omega
   have hps:=aah hi8
   have HLI:=Lib.hid e2
   have HG0:=Lib.hid g00
   have HTR:=Lib.hid (Gg (root:=root) (K:=60) (R0:=300000+(7-i)*20000+2720) (D:=72*i+90) (T:=60*i) (hst.less (by omega)) (by decide) X9 htok (by omega) (by omega))
   have ae1:=Lib.hid hrs
   have xw:=Lib.hid hrow
   have HLR:=Lib.hid hlr
   clear hst X9 hrs hrow HS e2 g00 hlr
   go_wp2_with fail
   refine Calls.mono HTR.out ?_
   rintro e w5 ⟨u,rfl,hg5,b5,hu5⟩
   have aa1:=Lib.hid (xw.out.below b5)
   obtain⟨b0,hb0⟩:∃b,b=w5.heap.size:=⟨_,rfl⟩
   rw[<-hb0]at hg5
   have HI0:=Lib.hid hg5
   clear hg5 b5 hu5 HTR xw hb0
   go_wp2
   go_loopg [12] li.length (fun ga s12 wr=>∃ (k:Nat) (es:List Ent),s12= .int .i64 (k:Nat)/\k<=li.length/\li.length-k<=ga/\Hid (pU w0 f d 3000 N t u disk frl P (72*i+90) (60*i) 60 k b0 (300000+(7-i)*20000+2720) es wr)/\Hid (LO aV 3 wr w0.heap.size (.slice Ar rs.length cr) rs))
   case atStart=>exact⟨0,es,rfl,Nat.zero_le _,by omega,HI0,aa1⟩
   case round=>
    clear HI0 aa1
    obtain⟨k,es,rfl,hkl,hkg,HI,xw⟩:=hrel
    have hwk:IntKind.i64.wrap ((k:Int)+1)=(k:Int)+1:=IntWalk.i64_in _ (by omega)
    have hbl:=HI.out.below
    have g0:=(hbl.cell (p:=⟨bb,oo+i,none⟩) hbb).trans HG0.out
    have hbz:bb<wr.heap.size:=Nat.lt_of_lt_of_le hbb hbl.size
    by_cases hk:k<li.length
    ·have hki:(k:Int)<(li.length:Nat):=by omega
     obtain⟨ba,oa,rfl,hba,k1,k2⟩:=(HLI.out.below hbl).ent hk
     have ah5:ba<wr.heap.size:=Nat.lt_of_lt_of_le hba hbl.size
     generalize li[k]=x at*
     obtain⟨s,v⟩:=x
     simp only at k1 k2
     have hbA:Below wr.heap.size wr (wr.alloc (.cells #[.string s, .string v] 101)):=(Below.refl _ wr).alloc (Nat.le_refl _) _
     have hXA:=Blk.new wr 101 #[.string s, .string v]
     have HIA:=Lib.hid (HI.out.up hbA)
     have Ya:=Lib.hid (xw.out.below hbA)
     have hgb:b0<=wr.heap.size:=HI.out.hb
     have y0:(wr.alloc (.cells #[.string s, .string v] 101)).cell? ⟨wr.heap.size,0,none⟩=some (.string s):=hXA.cell 0
     have y1:(wr.alloc (.cells #[.string s, .string v] 101)).cell? ⟨wr.heap.size,1,none⟩=some (.string v):=hXA.cell 1
     have yl:=hXA.lt
     clear hXA hbA HI xw hba hbl
     have ae2:k<60:=by omega
     have hma:=fun W=>YV s v W
     cases hgo:(v.toList== [103,111,110,101])with
     |true=>
      as_aux_lemma=>
      have Ew:=hgo
      obtain⟨m,hm⟩:∃m,m=En.may s v:=⟨_,rfl⟩
      rw[<-hm]at hma
      have JX:=Lib.hid hma
      have HD:=Lib.hid (X7 HIA.out ae2 (by omega) (by omega) s)
      clear hma hm
      go_wp2_with fail
      refine(JX.out _).mono ?_
      rintro e wA ⟨rfl,hwA⟩
      subst hwA
      go_wp2_with fail
      refine HD.out.mono ?_
      rintro e w6 ⟨b,rfl,h6,kp6⟩
      have HI6:=Lib.hid h6
      have DI:=Lib.hid (kp6 _ _ _ _ _ _ Ya.out (.inr (.inl rfl)))
      clear h6 kp6 HD
      go_wp2
      go_roundg (li.length-(k+1))
      case measure=>omega
      case rel=>exact⟨k+1,_,by go_num,by omega,Nat.le_refl _,HI6,DI⟩
     |false=>
      have Ew:=hgo
      cases hm:En.may s v with
      |false=>
       as_aux_lemma=>
       rw[hm]at hma
       have JX:=Lib.hid hma
       have HE:=Lib.hid HIA.out.skip
       clear hma hm HIA
       go_wp2_with fail
       refine(JX.out _).mono ?_
       rintro e wA ⟨rfl,hwA⟩
       subst hwA
       go_wp2
       go_roundg (li.length-(k+1))
       case measure=>omega
       case rel=>exact⟨k+1,es,by go_num,by omega,Nat.le_refl _,HE,Ya⟩
      |true=>
       as_aux_lemma=>
       rw[hm]at hma
       have JX:=Lib.hid hma
       have HP:=Lib.hid (X6 HIA.out ae2 (by omega) (by omega) hm)
       clear hma hm
       go_wp2_with fail
       refine(JX.out _).mono ?_
       rintro e wA ⟨rfl,hwA⟩
       subst hwA
       clear JX
       go_wp2_with fail
       refine HP.out.mono ?_
       rintro e w6 ⟨rfl,h6,kp6⟩
       have HI6:=Lib.hid h6
       have DI:=Lib.hid (kp6 _ _ _ _ _ _ Ya.out (.inr (.inl rfl)))
       clear h6 kp6 HP
       go_wp2
       go_roundg (li.length-(k+1))
       case measure=>omega
       case rel=>exact⟨k+1,_,by go_num,by omega,Nat.le_refl _,HI6,DI⟩
    ·obtain rfl:k=li.length:=by omega
     have hki:¬ (li.length:Int)<(li.length:Nat):=by omega
     have HFL:=Lib.hid (OW HI.out (by omega) (by omega) (by omega))
     clear hbl HI
     go_wp2_with fail
     refine HFL.out.mono ?_
     rintro e w6 ⟨rfl,bg,root',P',fl',oz,dQ,ae3,htk,ah6,Yb,hold,hkeep,hrt⟩
     have HRT:=Lib.hid hrt
     have acK:=Lib.hid ae3
     have DI:=Lib.hid (hkeep _ _ _ _ _ _ xw.out (.inr (.inl rfl)))
     have HVS:Hid (jL bg (rs++ [root'])):=Lib.hid (ae1.out.snoc hold Yb (by omega))
     have ae4:=Lib.hid Yb
     clear ae3 hrt Yb hold hkeep HFL ae1 xw
     go_wp2_with fail
     refine HRT.out.mono ?_
     rintro e w7 ⟨rfl,hw7⟩
     obtain rfl:=hw7
     clear HRT
     have hP2:P'<=pr (i+1):=by have:=hps.1;omega
     have hbw:w0.heap.size<=w7.heap.size:=acK.out.below.size
     have hraw:w7.ownsRow w0.heap.size 3 1 (.slice Ar rs.length cr) rs.length (aV.cells rs):=DI.out
     have ae5:rs.length<=8:=by have:=HLR.out;omega
     go_wp2_with (at_builtin;refine aU rfl _ _ 49 rfl wL Tryz.underlying49 rfl (by decide) rfl hraw rfl (by simp) rfl (by simp[Value.oneCell']) (by unfold maxLen;omega) (by omega) hbw ?_;intro v' w9 hown' hgrow hbel ahe _)
     obtain⟨A9,c9,rfl⟩:=gZ hown'
     have HD9:=Lib.hid (acK.out.row DI.out (Nat.le_refl _) h00 hgrow)
     have aa2:Hid (LO aV 3 w9 w0.heap.size (.slice A9 (rs.length+1) c9) (rs++ [root'])):=Lib.hid (LO.snoc rfl rfl rfl hown')
     clear hown' hgrow hbel ahe acK DI hraw
     have HKF:=Lib.hid (Us HD9.out)
     go_wp2_with fail
     refine Calls.mono HKF.out ?_
     intro e w10 he
     obtain⟨A7,c7,rfl,_,rs7,b7⟩:=he.open_
     have acL:=Lib.hid (HD9.out.below_ b7)
     have Yc:=Lib.hid (aa2.out.below b7)
     have HR7:=Lib.hid rs7
     have HKP:=Lib.hid (OV acL.out)
     clear he rs7 b7 HKF HD9 aa2
     go_wp2_with fail
     refine Calls.mono HKP.out ?_
     rintro e w11 ⟨rfl,acM⟩
     obtain rfl:=acM
     have HKN:=Lib.hid (X8 acL.out (by omega) A7 c7 HR7.out)
     clear HKP acL HR7
     go_wp2_with fail
     refine Calls.mono HKN.out ?_
     rintro e w12 ⟨t3,rfl,hb,b8⟩
     have ae6:(rs++ [root']).length=rs.length+1:=by simp
     have HS9:Hid (acJ w0 f d (i+1) t3 root' (rs++ [root']) A9 c9 w12):=Lib.hid ⟨⟨bg,fl',P',N+600,_,oz,dQ,hb.less (by omega),by omega,ae4.out,by omega,HVS.out,hP2⟩,by rw[List.length_append,HLR.out];rfl,by rw[ae6];exact Yc.out.below b8⟩
     clear hb b8 HKN Yc ae4 HVS HLR
     go_wp2
     go_roundg (rl.length-(i+1))
     case measure=>omega
     case rel=>exact⟨i+1,t3,root',rs++ [root'],A9,c9,by rw[ae6],rfl,rfl,by go_num,by omega,Nat.le_refl _,HS9⟩
  ·obtain rfl:i=rl.length:=by omega
   have hii:¬ (rl.length:Int)<(rl.length:Nat):=by omega
   obtain⟨⟨disk,frl,P,N,es0,ah7,ah8,hst,hN,_,_,hrs,hpp⟩,hlr,hrow⟩:=HS.out
   have hpq:P<=2738:=by
    have:rl.length=0\/rl.length=1\/rl.length=2\/rl.length=3\/rl.length=4\/rl.length=5\/rl.length=6\/rl.length=7\/rl.length=8:=by omega
    rcases this with e | e | e | e | e | e | e | e | e<;>rw[e]at hpp<;>exact Int.le_trans hpp (by decide)
   have HE:Hid (aa0 w0 f d rl.length (.returned (.tuple #[.slice Ar rs.length cr, .pointer (some ⟨t,0,none⟩), .bool true])) wr):=Lib.hid ⟨Ar,cr,rs,t,disk,frl,P,N,rfl,hst.less (by omega),by omega,hrs,hlr,hpq,hrow⟩
   clear hst hrs hrow HS hlr hpp hpq
   go_wp2
   go_ret3
   exact HE.out
section
variable {S:Nat->Prop}{B t u:Nat}{room:Int}{disk:Tp.aA}{TM:Nat->Tp.Pst->World->Prop}{root:Int}{σ:Tp.Pst}{es:List Ent}{tok:Nat}{ids:List Int}
theorem DJ(M:fU S B t room disk TM)(hv:Tp.bH (σ.view disk) root es tok ids)(hv0:σ.view disk 0=none)(htl:tok<=200000)(frm hi:ByteArray)(r:Nat)(W:World)(h:On S B t u TM root 0 (r+2*ids.length) σ W):
  Calls Tryz.prog 54 #[.pointer (some ⟨u,0,none⟩), .string frm, .string hi] W (FX S B t u TM root r σ (Tp.Qk es frm hi) W):=by
 obtain⟨hf1,hf2,hs⟩:=kF hv
 rcases hv with⟨rfl,rfl,rfl⟩ | ⟨hh,s,rfl,rfl,rfl,q4,q5,q6,q8⟩
 ·have hc:∀c:Nd.Node->Nat,Tp.cost c disk σ 24 0=0:=fun c=>by rw[Tp.cost,hv0]
  exact KW M u 0 frm hi σ [] true r W (by rw[hc];exact Nat.zero_le _) (fun _=>rfl) (fun h0=>absurd rfl h0) (by rw[hc];exact h)
 ·have h8:=Tp.OA q8 (by omega)
  have hz:s.id≠0:=fun e=>by
   obtain⟨y,hy⟩:∃y,σ.view disk s.id=some y:=by
    obtain⟨y,y1,_⟩:=Mk.tH q5 s.id (Tp.o9 q5)
    exact⟨y,y1⟩
   rw[e,hv0]at hy
   cases hy
  have h1:=Ql (σ:=σ) (disk:=disk) hh 24 none none s q5
  have h2:=Qm (σ:=σ) (disk:=disk) hh 24 none none s q5
  refine KW M u s.id frm hi σ _ (Tp.eH (rU hi) [] (Tp.from_ s.es frm)).2 r W (by omega) (fun h0=>absurd h0 hz) (fun _=> ?_) (h.less M (by omega))
  rw[Tp.KQ (rU hi) hh 24 none none s [] (by omega) q5,acu hs]
end
section
variable {w0 W W':World}{F:aT}{f0 d0 n N t u B m r c:Nat}{used:List Run}{σ:Tp.Pst}{disk:Tp.aA}{fl:List Run}{P x:Int}{D T K k b0 R0:Nat}{es:List Ent}{y:Nd.Node}{vs:List Ct.Ver}
theorem Aw(h:TMd F B t m n used disk r σ W)(hv:σ.view disk x=some y):0<x:=by
 rcases jm hv with⟨h1,h2⟩ | ⟨_,h2,h3,_,h5⟩
 ·have:=h.mem.ap.hm x h1
  omega
 ·omega
theorem yG(h:TMd F B t m n used disk r σ W):σ.view disk 0=none:=by
 cases hv:σ.view disk 0 with
 |none=>rfl
 |some y=>have:=Aw h hv;omega
theorem Ut(h:pU w0 f0 d0 n N t u disk fl P D T K k b0 R0 es W)(hk:k<K)(hT:T+K<=1000)(hD:6*(T+K)+90<=5*D){s v:ByteArray}(hm:En.may s v=true):
  Calls Tryz.prog 65 #[.pointer (some ⟨u,0,none⟩), .string s, .string v] W fun e W'=>e= .returned (.int .i64 0)/\pU w0 f0 d0 n N t u disk fl P D T K (k+1) b0 R0 (En.put es s v) W'/\lQ W W'/\Fr (fun x=>w0.heap.size<=x/\x<b0) W W':=by
 obtain⟨⟨F,a,e1,e2,e3,e4,e5,e6,rfl,h1⟩,h2,h3⟩:=h
 refine(Iz h1 hk hT hD (qA h3.1 fl) h3.2 hm).mono ?_
 rintro e W' ⟨rfl,g1,g2,g3⟩
 exact⟨rfl,⟨⟨F,a,e1,e2,e3,e4,e5,e6,rfl,g1⟩,h2,h3⟩,g3,g2.more fun x hx=>⟨h1.hF x hx,h1.low x hx⟩⟩
structure Yd(w0:World)(f0 d0 n N t u c:Nat)(disk:Tp.aA)(fl:List Run)(P:Int)(D K k b0 R0:Nat)(vs:List Ct.Ver)(W:World):Prop where
 g:pU w0 f0 d0 n N t u disk fl P D 0 K k b0 R0 (vs.map Ct.kX) W
 blk:Blk W c 154 #[.pointer (some ⟨u,0,none⟩)]
 cb:b0<=c
 ok:∀x∈vs,x.Ok
def aa3(w0:World)(b0:Nat)(W W':World):Prop:=lQ W W'/\Fr (fun x=>w0.heap.size<=x/\x<b0) W W'
theorem LG(h:Yd w0 f0 d0 n N t u c disk fl P D K k b0 R0 vs W)(hk:k<K)(hT:K<=1000)(hD:6*K+90<=5*D){v:Ct.Ver}(hv:v.Ok)(hn:∀x∈vs,x.id≠v.id):
  Calls Tryz.prog 27 #[.pointer (some ⟨c,0,none⟩), .agg #[.int .i64 v.id, .int .i64 v.par, .int .i64 v.root, .int .i64 v.edges]] W fun e W'=>e= .returned (.int .i64 0)/\(∃vs':List Ct.Ver,Yd w0 f0 d0 n N t u c disk fl P D K (k+1) b0 R0 vs' W'/\(∀x,x∈vs' ↔ x=v\/x∈vs)/\vs'.length=vs.length+1)/\aa3 w0 b0 W W':=by
 obtain⟨vs',p1,p2,p3⟩:=Ct.X4 hv vs h.ok hn
 refine(XY v hv c u W h.blk (Q:=fun k' W'=>k'=0/\Yd w0 f0 d0 n N t u c disk fl P D K (k+1) b0 R0 vs' W'/\aa3 w0 b0 W W') fun W1 hb=> ?_).mono ?_
 ·refine(Ut (h.g.up hb) hk (by omega) (by omega) (Ct.aag v)).mono ?_
  rintro e W' ⟨rfl,g1,g2,g3⟩
  have hc:Blk W' c 154 #[.pointer (some ⟨u,0,none⟩)]:=g3.blk (h.blk.below hb h.blk.lt) (fun a=>by have:=h.cb;omega)
  rw[p1]at g1
  exact⟨0,rfl,⟨rfl,⟨g1,hc,h.cb,fun x hx=>((p2 x).1 hx).elim (fun e=>e ▸ hv) (h.ok x)⟩,(lQ.of hb).trans g2,(Fr.of_below hb).trans g3⟩,hc⟩
 ·rintro e W' ⟨k',rfl,rfl,h1,h2⟩
  exact⟨rfl,⟨vs',h1,p2,p3⟩,h2⟩
end
section
variable {w0 W W':World}{f0 d0 N t u c:Nat}{disk:Tp.aA}{fl:List Run}{P:Int}{b0 R0:Nat}{vs:List Ct.Ver}{rs kl:List Int}{i:Nat}
theorem Own.frS{S:Nat->Prop}{w w':World}{base:Nat}{v:Value}{l:List Run}(h:Own w base v l)(hf:Fr S w w')(hS:∀k,S k->k<base):Own w' base v l:=by
 rcases h with⟨h4,h5 | ⟨g,cap,cur,hv,hb,hh,q⟩⟩
 ·exact⟨h4, .inl h5⟩
 ·have hB:Blk w g 64 cur:=hh
  exact⟨h4, .inr ⟨g,cap,cur,hv,hb,hf.blk hB (fun e=>by have:=hS g e;omega),q⟩⟩
end
theorem aai(D:Dk)(q:Int->Nat)(bd:Int->Bs)(th:Int->Bool)(ss:List Int)(j:Nat)(hj:j<ss.length)(ht:th ss[j]=true):flQ D q bd ((ss.take (j+1)).filter th)=(flQ D q bd ((ss.take j).filter th)).dW ss[j] (q ss[j]) (bd ss[j]):=by
 unfold flQ
 rw[List.take_succ_eq_append_getElem hj,List.filter_append,List.filter_cons_of_pos ht,List.filter_nil,List.foldl_append]
 rfl
theorem aaj(D:Dk)(q:Int->Nat)(bd:Int->Bs)(th:Int->Bool)(ss:List Int)(j:Nat)(hj:j<ss.length)(ht:th ss[j]=false):flQ D q bd ((ss.take (j+1)).filter th)=flQ D q bd ((ss.take j).filter th):=by
 rw[List.take_succ_eq_append_getElem hj,List.filter_append,List.filter_cons_of_neg (by rw[ht];decide),List.filter_nil,List.append_nil]
theorem Ye{w:World}{B f d kf t m s m0 n k N:Nat}{Dd:Dk}{free:List Run}{pages:Int}{D:DataW Value}(q:Int->Nat)(hq:∀x,q x<256)(bd:Int->Bs)(th:Int->Bool)(h:Txn w t m f n free pages k D)(hF:FAt w B f d kf Dd)(hn:Dd.sure.length=n)
  (hc0:w.cell? ⟨d,0,none⟩=some (.slice (some ⟨s,0,none⟩) n n)) (hc1:w.cell? ⟨d,1,none⟩=some (.map (some m0))) (hmm:m≠m0)
  (hL:Lim Dd N) (hN:N+1000<1000000000000) (hk:k<=1000) (hkf:kf+1000<maxLen) (hT:HT w) (hB0:1<B) (hB:B<=w.heap.size)
  (hD:∀x∈intKeys D,(Lit.int .i64 x).wf=true/\∀z,D.atKey (.int .i64 x) z= .held (content (th x) (q x:Nat) ⟨(bd x).toArray⟩))
  (hE:∀ss:List Int,ss.Perm (intKeys D)->∀j (hj:j<ss.length),th ss[j]=true->(flQ Dd q bd ((ss.take j).filter th)).jc ss[j] (bd ss[j])=0)
  (hS:∀ss:List Int,ss.Perm (intKeys D)->PN (flQ Dd q bd (ss.filter th))/\(flQ Dd q bd (ss.filter th)).down=false):
  Calls Tryz.prog 16 #[.pointer (some ⟨t,0,none⟩)] w fun e w'=>∃ss:List Int,ss.Perm (intKeys D)/\Fg B f d s m0 (flQ Dd q bd (ss.filter th)).synced w e w':=by
 have htk:=BA t m f n k free pages D w (by omega) h
 have hsz:=h.map.size_le
 have HD:=Lib.hid hD
 have HE:=Lib.hid hE
 have HS:=Lib.hid hS
 clear hD hE hS
 go_enter Tryz.func16,Tryz.ntmps16
 go_wp2_with fail
 refine Calls.mono htk ?_
 rintro e w1 ⟨A,c,ss,rfl,hpm,hsl,hss,hb1⟩
 have hT1:=h.below hb1
 have hF1:=hF.keep hb1
 have hM1:=cO.below hb1 hF.disk.dlt
 have hbB:=hb1.mono hB
 have hw1:=Nat.le_trans hB hb1.size
 have HPM:=Lib.hid hpm
 clear hpm
 go_wp2
 go_loopw [10] (fun i wr=>∃j:Nat,j<=ss.length/\i= .int .i64 j/\FAt wr B f d (kf+j) (flQ Dd q bd ((ss.take j).filter th))/\Lim (flQ Dd q bd ((ss.take j).filter th)) (N+j)/\Txn wr t m f n free pages k D/\Kept w1 wr/\cO d w1 wr/\Below B w1 wr) (fun i _=>ss.length-(intOf i).toNat)
 case atStart=>exact⟨0,by omega,rfl,hF1,hL,hT1,Kept.refl _,cO.refl _ _,Below.refl _ _⟩
 case round=>
  obtain⟨j,hj,rfl,hFr,hLr,hTr,hKr,hMr,hBr⟩:=hrel
  by_cases hlt:j<ss.length
  ·obtain⟨b2,o2,rfl,hb2,g0⟩:=(hss.kept hKr (by decide) (by decide)).ls.int hlt
   obtain⟨hwf,hat⟩:=HD.out _ (HPM.out.mem_iff.1 (List.getElem_mem hlt))
   have acN:=HE.out ss HPM.out j hlt
   have acO:=aai Dd q bd th ss j hlt
   have acP:=aaj Dd q bd th ss j hlt
   have HFL:=Lib.hid (PU q bd ((ss.take (j+1)).filter th) Dd)
   have hLf:=hLr.dW ss[j] (q ss[j]) (bd ss[j])
   generalize ss[j]=y at*
   have hqy:=hq y
   generalize q y=qy at*
   obtain⟨u,ps,hlook,hu⟩:=hTr.map.lookup qM Tryz.underlying120 (Tryz.zeroValue131 wr) (oH _ _ _) (MR hwf)
   rw[hat]at hu
   obtain⟨b',q',s',rfl,hz⟩:=oI hu
   have hz:=(Prod.mk.inj hz).1
   injection hz with hz
   rw[<-hz]at hlook
   clear hu hz hat
   have abu:=hTr
   obtain⟨_,⟨vf,h2,_⟩,_⟩:=abu
   have hlt2:=h2.lt
   have hc3:=h2.cell 3
   have hcf:=h2.cell 0
   cases hth:th y with
   |true=>
    have hsu:=acO hth
    have hfe:=acN hth
    rw[<-hsu]at hLf
    rw[hth]at hlook
    clear acO acP acN
    unfold content at hlook
    have hbA:Below wr.heap.size wr (wr.alloc (.cells #[.bool true, .int .u8 (qy:Int), .string ⟨(bd y).toArray⟩] 131)):=(Below.refl _ wr).alloc (Nat.le_refl _) _
    have yX:=Blk.new wr 131 #[.bool true, .int .u8 (qy:Int), .string ⟨(bd y).toArray⟩]
    have hwr:=Nat.le_trans hw1 hBr.size
    have hfw:=fun W (h1:FAt W B f d (kf+j) (flQ Dd q bd ((ss.take j).filter th))) (h2:HT W) (h3:B<=W.heap.size)=>qQ h1 (hLr.fine (by omega)) (by omega) h2 h3 y qy hqy (bd y)
    rw[hfe, <-hsu]at hfw
    unfold Nl str at hfw
    have HFW:=Lib.hid hfw
    clear hfw hfe
    have hk0:=(h2.alloc (.cells #[.bool true, .int .u8 (qy:Int), .string ⟨(bd y).toArray⟩] 131)).cell 0
    have hk1:=yX.cell 1
    have hk2:=yX.cell 2
    have hFa:=(hFr.keep hbA).dX (w':=(wr.alloc (.cells #[.bool true, .int .u8 (qy:Int), .string ⟨(bd y).toArray⟩] 131)).drew) ⟨fun _ _ _ h _=>h,fun _ _ _ h=>h⟩
    have hTa:HT (wr.alloc (.cells #[.bool true, .int .u8 (qy:Int), .string ⟨(bd y).toArray⟩] 131)).drew:=(((hT.below hbB hB0).below hBr hB0).below (hbA.mono hwr).drew hB0)
    have hBa:B<=(wr.alloc (.cells #[.bool true, .int .u8 (qy:Int), .string ⟨(bd y).toArray⟩] 131)).drew.heap.size:=by have:=hbA.size;exact Nat.le_trans hwr this
    have afW:=hTr.below hbA
    have hKa:=hKr.trans (Kept.below hbA)
    have hMa:=hMr.trans (cO.below hbA hFr.disk.dlt)
    have abv:=hBr.trans (hbA.mono hwr)
    generalize flQ Dd q bd ((ss.take j).filter th)=Dj at*
    have hcont:=HFW.out _ hFa hTa hBa
    have hKd:Kept w1 (wr.alloc (.cells #[.bool true, .int .u8 (qy:Int), .string ⟨(bd y).toArray⟩] 131)).drew:=hKa
    have hMd:cO d w1 (wr.alloc (.cells #[.bool true, .int .u8 (qy:Int), .string ⟨(bd y).toArray⟩] 131)).drew:=⟨hMa.cell,hMa.oth,hMa.row⟩
    have hBd:=abv.drew
    have hTd:Txn (wr.alloc (.cells #[.bool true, .int .u8 (qy:Int), .string ⟨(bd y).toArray⟩] 131)).drew t m f n free pages k D:=hTr.below hbA.drew
    have abw:=hMd.1.trans (hM1.1.trans hc1)
    have hk0d:(wr.alloc (.cells #[.bool true, .int .u8 (qy:Int), .string ⟨(bd y).toArray⟩] 131)).drew.cell? ⟨t,0,none⟩=some (.pointer (some ⟨f,0,none⟩)):=hk0
    have afX:(wr.alloc (.cells #[.bool true, .int .u8 (qy:Int), .string ⟨(bd y).toArray⟩] 131)).drew.cell? ⟨wr.heap.size,1,none⟩=some (.int .u8 (qy:Int)):=hk1
    have afY:(wr.alloc (.cells #[.bool true, .int .u8 (qy:Int), .string ⟨(bd y).toArray⟩] 131)).drew.cell? ⟨wr.heap.size,2,none⟩=some (.string ⟨(bd y).toArray⟩):=hk2
    go_wp2
    go_region_with (go_at_call 68;refine hcont.mono ?_;rintro e w2 ⟨rfl,gF,gB,gK,gM⟩)
    all_goals go_wp2
    all_goals go_roundw
    all_goals try(simp[intOf];omega)
    all_goals exact⟨j+1,by omega,by go_num,gF,hLf,Txn.keepW (m0:=m0) hTd gK (gM.2 m0 abw) hmm gF (by rw[HFL.out,hn]),hKd.trans gK,hMd.trans gM,hBd.trans gB⟩
   |false=>
    have hsn:=acP hth
    rw[hth]at hlook
    clear acO acP acN hLf
    unfold content at hlook
    have hbA:Below wr.heap.size wr (wr.alloc (.cells #[.bool false, .int .u8 (qy:Int), .string ⟨(bd y).toArray⟩] 131)):=(Below.refl _ wr).alloc (Nat.le_refl _) _
    have yX:=Blk.new wr 131 #[.bool false, .int .u8 (qy:Int), .string ⟨(bd y).toArray⟩]
    have hwr:=Nat.le_trans hw1 hBr.size
    have hk0:=yX.cell 0
    have HF:=Lib.hid (hFr.keep hbA)
    have HT:=Lib.hid (hTr.below hbA)
    have HK:=Lib.hid (hKr.trans (Kept.below hbA))
    have HMM:=Lib.hid (hMr.trans (cO.below hbA hFr.disk.dlt))
    have HBB:=Lib.hid (hBr.trans (hbA.mono hwr))
    have HLL:=Lib.hid (hLr.mono (Nat.le_succ _))
    clear hFr hTr hKr hMr hBr hLr hbA yX
    go_wp2
    go_roundw
    all_goals try(simp[intOf];omega)
    all_goals exact⟨j+1,by omega,by go_num,by rw[hsn];exact HF.out.mono (by omega),by rw[hsn];exact HLL.out,HT.out,HK.out,HMM.out,HBB.out⟩
  ·obtain rfl:j=ss.length:=by omega
   rw[List.take_of_length_le (Nat.le_refl _)]at hFr hLr
   obtain⟨hW,hdn⟩:=HS.out ss HPM.out
   obtain⟨s',m',pv,Dm,hDA⟩:=hFr.disk
   have hseq:s'=s:=by
    have e1:=hDA.self.cell 0
    have e2:=hMr.row.trans (hM1.row.trans hc0)
    simp only[dZ]at e1
    rw[e2]at e1
    have e3:Value.slice (some ⟨s,0,none⟩) n n=Value.slice (some ⟨s',0,none⟩) (flQ Dd q bd (ss.filter th)).sure.length (flQ Dd q bd (ss.filter th)).sure.length:=by simpa using e1
    injection e3 with e3
    injection e3 with e3
    injection e3 with e3
    exact e3.symm
   subst hseq
   have hmeq:m'=m0:=by
    have e1:=hDA.self.cell 1
    have e2:=hMr.1.trans (hM1.1.trans hc1)
    simp only[dZ]at e1
    rw[e2]at e1
    simpa using e1.symm
   subst hmeq
   have hpl:=hLr.pend
   have hsy:=Jv hDA hW hdn (by omega)
   have hcf:=hFr.self.cell 0
   obtain⟨_,⟨vf,h2,_⟩,_⟩:=id hTr
   have hct:=h2.cell 0
   have hfin:∀e w3,(e= .returned (.int .i64 0)/\DAt w3 B d 0 (flQ Dd q bd (ss.filter th)).synced s' m' (.slice none 0 0) (.map [])/\He d s' m' wr w3)->Fg B f d s' m' (flQ Dd q bd (ss.filter th)).synced w e w3:=by
    rintro e w3 ⟨rfl,gD,gT⟩
    have t1:∀ {g:Nat} {ty:TypeId} {cs:Array Value},Blk wr g ty cs->ty≠117->g≠s'->Blk w3 g ty cs:=fun {g ty cs} hb n1 n2=>
     (gT.block g hb.lt (hb.ne_ hDA.self n1) n2 (fun e=>hDA.mne hb e.symm)).trans hb
    refine⟨rfl,⟨hFr.le,t1 hFr.self (by decide) (hFr.self.ne_ hDA.sure (by decide)),gD⟩,(hbB.trans hBr).trans ⟨gT.os,gT.tape,gT.output,gT.size,fun g hg=> ?_⟩,fun g ty cs hb n1 n2 n3=>t1 (hKr g ty cs (Kept.below hb1 g ty cs hb n1 n2) n1 n2) n1 n3,fun g es c hne hb=> ?_⟩
    ·obtain⟨l1,l2,l3⟩:=hDA.le
     exact gT.block g (by have:=hDA.self.lt;omega) (by omega) (by omega) (by omega)
    ·have b1:w1.heap[g]? =some (.map es c):=(hb1.block g (Array.getElem?_eq_some_iff.1 hb).1).trans hb
     have b2:=hMr.2 m' (hM1.1.trans hc1) g _ b1 rfl hne
     exact(gT.block g (Array.getElem?_eq_some_iff.1 b2).1 (fun e=>by subst e;have:=hDA.self;unfold Blk at this;rw[b2]at this;cases this) (fun e=>by subst e;have:=hDA.sure;unfold Blk at this;rw[b2]at this;cases this) hne).trans b2
   have oh:=Lib.hid (fun e w3 h=>(⟨ss,HPM.out,hfin e w3 h⟩:∃ss:List Int,ss.Perm (intKeys D)/\Fg B f d s' m' (flQ Dd q bd (ss.filter th)).synced w e w3))
   clear hfin
   go_wp2_with fail
   refine Calls.mono hsy ?_
   rintro e w3 hS3
   obtain rfl:=hS3.1
   have hlast:=oh.out _ _ hS3
   clear hS3
   go_wp2
   exact bodyPost_ret (v:= .int .i64 0) (by simp[results,Tryz.f16,go_sem]) rfl hlast
structure Yf(t m f n:Nat)(σ:Tp.Pst)(D:DataW Value)(w:World):Prop where
 txn:Txn w t m f n σ.free σ.pages σ.mine.length D
 keys:gG D σ.mine
 nd:∀id,id∈σ.mine->∀x,σ.nd id=some x->∀z,D.atKey (.int .i64 id) z= .held (content true (if x.leaf then 1 else 2) (Nd.str (Nd.enc x)))
 no:∀id,id∈σ.mine->σ.nd id=none->∀z,D.atKey (.int .i64 id) z= .held (content false 0 ⟨#[]⟩)
section
variable {t m f n:Nat}{used:List Run}{σ:Tp.Pst}{w w':World}
theorem TMc.acQ(h:TMc t m f n used σ w)(hnd:∀id,id∈σ.mine->∃x,σ.nd id=some x){σ':Tp.Pst}{id:Int}(ha:Tp.dF (max (n:Int) 2) σ=some (id,σ')):
  Calls Tryz.prog 30 #[.pointer (some ⟨t,0,none⟩)] w fun e w'=>e= .returned (.tuple #[.int .i64 id, .int .i64 0])/\fJ id/\TMc t m f n used σ' w'/\(∃D,Yf t m f n σ' D w')/\Touch t m w w':=by
 obtain⟨D,h4,h5,h6⟩:=h.txn
 have hsm:=kT h.ap
 have hp:=h.ap.pg
 have hA:=uQ t m f n σ.mine.length σ.free σ.pages D hsm.1 (by unfold maxLen;omega) (by omega) w h4
 rw[yj]at hA
 unfold Tp.dF at ha
 cases hv:Tp.eY σ.free σ.pages (max (n:Int) 2)with
 |none=>rw[hv]at ha;cases ha
 |some o=>
  obtain⟨id',fr,p⟩:=o
  rw[hv]at ha hA
  simp only[Option.some.injEq,Prod.mk.injEq]at ha
  obtain⟨rfl,rfl⟩:=ha
  have hstep:id' ∉ σ.mine/\fJ id'/\Rp.Ap (max (n:Int) 2) fr used (σ.mine++ [id']) p:=by
   unfold Tp.eY at hv
   cases hl:Rp.least σ.free with
   |some j=>
    rw[hl]at hv
    injection hv with hv
    injection hv with e1 hv
    injection hv with e2 e3
    subst e1 e2 e3
    obtain⟨g1,g2,g3,g4,g5⟩:=h.ap.free hl
    exact⟨g1,by unfold fJ;omega,g5⟩
   |none=>
    rw[hl]at hv
    simp only at hv
    split at hv
    ·cases hv
    ·injection hv with hv
     injection hv with e1 hv
     injection hv with e2 e3
     subst e1 e2 e3
     obtain⟨g1,g2,g3⟩:=h.ap.fresh (by omega)
     exact⟨g1,by unfold fJ;omega,g3⟩
  obtain⟨g1,g2,g3⟩:=hstep
  have hk5:=h5.adS g1 (.held (content false 0 ⟨#[]⟩))
  obtain⟨_,_,hown⟩:=id h4
  have hmap:=hown.isMap
  refine hA.mono ?_
  rintro e w1 ⟨ht,rfl,hT⟩
  have hT2:=hT.tight
  rw[hk5.size]at hT2
  have hold:∀i,i∈σ.mine++ [id']->∀y,(if i=id' then none else σ.nd i)=some y->i∈σ.mine/\σ.nd i=some y/\i≠id':=fun i hi y hy=>by
   split at hy
   ·cases hy
   ·rename_i e
    rcases List.mem_append.1 hi with hi | hi
    ·exact⟨hi,hy,e⟩
    ·exact absurd (List.mem_singleton.1 hi) e
  have hnew:∀i,i∈σ.mine++ [id']->∀y,(if i=id' then none else σ.nd i)=some y->∀z,(D.put (.int .i64 id') (.held (content false 0 ⟨#[]⟩))).atKey (.int .i64 i) z= .held (content true (if y.leaf then 1 else 2) (Nd.str (Nd.enc y))):=fun i hi y hy z=>by
   obtain⟨a1,a2,a3⟩:=hold i hi y hy
   rw[Maps.atKey_put_other (fun a=>by injection a with _ a;exact a3 a)]
   exact h6 i a1 y a2 z
  refine⟨rfl,g2,⟨g3,fun i hi y hy=> ?_,_,hT2,hk5,hnew⟩,⟨_,hT2,hk5,hnew,fun i hi hy z=> ?_⟩,ht⟩
  ·obtain⟨a1,a2,_⟩:=hold i hi y hy
   exact h.fit i a1 y a2
  ·simp only at hy
   split at hy
   ·rename_i e
    subst e
    rw[Maps.atKey_put_same hmap (by trivial)]
   ·rename_i e
    rcases List.mem_append.1 hi with hi | hi
    ·obtain⟨x,hx⟩:=hnd i hi
     rw[hx]at hy
     cases hy
    ·exact absurd (List.mem_singleton.1 hi) e
end
theorem LH{F:aT}{B t m n r N:Nat}{used:List Run}{disk:Tp.aA}{σ:Tp.Pst}{w:World}{D:DataW Value}(h:TMd F B t m n used disk r σ w)(hH:Yf t m F.f n σ D w)(hd:FOn F n disk N)(hN:N+2000<90000)(hk:F.k+1000<maxLen)(hml:σ.mine.length<=1000):
  Calls Tryz.prog 16 #[.pointer (some ⟨t,0,none⟩)] w fun e w'=>e= .returned (.int .i64 0)/\∃F',jW F n (flushed disk σ) (N+σ.mine.length) r w F' w':=by
 obtain⟨b1,b2,b3,b4,⟨g1,g2,_⟩,b6,R,r1,r2,r3⟩:=h
 obtain⟨g3,g4,g5,g6⟩:=hH
 obtain⟨th,hth⟩:∃th:Int->Bool,th=fun x=>(σ.nd x).isSome:=⟨_,rfl⟩
 obtain⟨c,c1,c2⟩:=hd.c
 have hw1:=hd.writes
 have hp1:=hd.pend
 have hpm:σ.mine.Perm (intKeys D):=J5 g3 g4 g1.nd
 have hpg:=g1.pg
 have hno:∀x∈σ.mine,aS n x=false:=fun x hx=>by
  have:=g1.hm x hx
  unfold aS;simp;omega
 have hbl:∀x∈σ.mine,(ndB σ x).length<=240:=fun x hx=>by
  cases hy:σ.nd x with
  |none=>unfold ndB;rw[hy];simp
  |some y=>
   have hr:=Tp.bf.1 (g2 x hx y hy)
   have:=Nd.uY hr.1
   unfold ndB;rw[hy];simp only;have:=hr.2;omega
 have hmem:∀ {ss:List Int},ss.Perm (intKeys D)->∀x,x∈ss ↔ x∈σ.mine:=fun {ss} hs x=>by rw[hs.mem_iff,hpm.mem_iff]
 have hDR:=c1.rd R
 have hsz:=c1.ok.size
 have e0:w.cell? ⟨F.d,0,none⟩=some (.slice (some ⟨F.s,0,none⟩) F.D.sure.length F.D.sure.length):=r3.disk.self.cell 0
 have e1:w.cell? ⟨F.d,1,none⟩=some (.map (some F.m)):=r3.disk.self.cell 1
 rw[hsz]at e0
 have hsep:=b2 F.m (.inr (.inr (.inr (.inl rfl))))
 have hle:=r3.disk.le.1
 refine(Ye (N:=900000001000) (ndK σ) (qp σ) (ndB σ) th g3 r3.fat (show F.D.sure.length=n from hsz) e0 e1 (by omega)
  ⟨by show F.D.sure.length<=_;rw[hsz];exact hd.hn,⟨hw1.1,by show F.D.writes<=_;omega⟩,⟨r1,by show R<=_;omega⟩,by show -1<=F.D.left/\F.D.left<=9223372036854775807;rw[c1.ok.left];decide,by show F.D.pend.length<=_;omega⟩ (by omega) hml hk b4 b3.1 (by omega)
  (fun x hx=> ?_) (fun ss hs j hj _=> ?_) (fun ss hs=> ?_)).mono ?_
 ·have hxm:x∈σ.mine:=hpm.mem_iff.2 hx
  have hi:=(TMc.SS (t:=t) (m:=m) (f:=F.f) (w:=w) ⟨g1,g2,D,g3,g4,g5⟩ hxm).wf
  refine⟨hi,fun z=> ?_⟩
  have ht:th x=(σ.nd x).isSome:=by rw[hth]
  cases hy:σ.nd x with
  |none=>
   rw[g6 x hxm hy z,ht]
   unfold ndK ndB
   rw[hy]
   rfl
  |some y=>
  rw[g5 x hxm y hy z,ht]
  unfold ndK ndB Nd.kind
  rw[hy]
  show DataW.held (content true (if y.leaf then 1 else 2) (Nd.str (Nd.enc y)))=DataW.held (content true (((if y.leaf=true then 1 else 2:Nat):Nat):Int) (Nd.str (Nd.enc y)))
  cases y.leaf<;>rfl
 ·obtain⟨⟨c',k1,_⟩,_⟩:=yt (n:=n) (qp σ) (ndB σ) ((ss.take j).filter th) _ c hDR (fun x hx=>by
   have hx2:=List.mem_of_mem_take (List.mem_filter.1 hx).1
   exact⟨hno x ((hmem hs x).1 hx2),hbl x ((hmem hs x).1 hx2)⟩)
  have hx2:=List.getElem_mem hj
  exact(k1.dW (hno _ ((hmem hs _).1 hx2)) (qp σ ss[j]) (hbl _ ((hmem hs _).1 hx2))).1
 ·obtain⟨⟨c',k1,_⟩,_⟩:=yt (n:=n) (qp σ) (ndB σ) (ss.filter th) _ c hDR (fun x hx=>⟨hno x ((hmem hs x).1 (List.mem_filter.1 hx).1),hbl x ((hmem hs x).1 (List.mem_filter.1 hx).1)⟩)
  exact⟨k1.well,k1.ok.down⟩
 ·rintro e w' ⟨ss,hs,rfl,q1,q2,q3,q4⟩
  obtain⟨⟨c',k1,k2⟩,k3,k4⟩:=yt (n:=n) (qp σ) (ndB σ) (ss.filter th) _ c hDR (fun x hx=>⟨hno x ((hmem hs x).1 (List.mem_filter.1 hx).1),hbl x ((hmem hs x).1 (List.mem_filter.1 hx).1)⟩)
  have hsl:(ss.filter th).length<=σ.mine.length:=Nat.le_trans (List.length_filter_le _ _) (by rw[hs.length_eq,hpm.length_eq];exact Nat.le_refl _)
  obtain⟨D',hD'⟩:∃D',D'=(flQ { F.D with reads:=R } (ndK σ) (ndB σ) (ss.filter th)).synced:=⟨_,rfl⟩
  have h1:D'.reads=R:=by rw[hD'];exact k4
  have h2:D'.writes=F.D.writes+((ss.filter th).length:Int):=by rw[hD'];exact k3
  have h3:D'.pend= []:=by rw[hD'];rfl
  have h4:DkC D' n c':=by rw[hD'];exact k1.synced
  rw[<-hD']at q1
  have h5:({ D' with reads:=R } :Dk)=D':=by subst h1;rfl
  refine⟨rfl, { F with k:=0,pv:= .slice none 0 0,Dm:= .map [],D:=D' },⟨⟨rfl,rfl,rfl,rfl,rfl,rfl,rfl,h3⟩,⟨hd.hn,⟨c',h4,fun id x hx=> ?_⟩,by show 0<=D'.writes/\D'.writes<=_;omega,by show D'.pend.length<=_;rw[h3];simp⟩,⟨R,r1,r2, ?_⟩,q2,q3,q4⟩⟩
  ·unfold flushed at hx
   rw[k2 id]
   unfold WQ
   split at hx
   ·rename_i hm
    rw[if_pos (List.mem_filter.2 ⟨(hmem hs id).2 hm,by rw[hth];simp[hx]⟩)]
    refine⟨g2 id hm x hx,hno id hm, ?_⟩
    unfold ndK ndB
    rw[hx]
   ·rename_i hm
    rw[if_neg (fun a=>hm ((hmem hs id).1 (List.mem_filter.1 a).1))]
    exact c2 id x hx
  ·show FDt w' F.B F.f F.d 0 { D' with reads:=R } F.s F.m (.slice none 0 0) (.map [])
   rw[h5];exact q1
theorem DK{room:Int}{σ σ':Tp.Pst}{id:Int}(ha:Tp.dF room σ=some (id,σ')):σ'.mine=σ.mine++ [id]/\∀j,σ'.nd j=if j=id then none else σ.nd j:=by
 unfold Tp.dF at ha
 cases hv:Tp.eY σ.free σ.pages room with
 |none=>rw[hv]at ha;cases ha
 |some o=>
  obtain⟨id',fr,p⟩:=o
  rw[hv]at ha
  simp only[Option.some.injEq,Prod.mk.injEq]at ha
  obtain⟨rfl,rfl⟩:=ha
  exact⟨rfl,fun j=>rfl⟩
section
variable {F F':aT}{n N:Nat}{a:TAd}{used:List Run}{disk:Tp.aA}{root:Int}{σ σ':Tp.Pst}{ids:List Int}{es:List Ent}{tok r:Nat}{w w':World}{id:Int}
structure FlH(F:aT)(n:Nat)(a:TAd)(disk:Tp.aA)(root id:Int)(σ σ':Tp.Pst)(ids:List Int)(es:List Ent)(tok N r:Nat)(w:World)(F':aT)(bg:Tp.aA)(w':World):Prop where
 same:F'.B=F.B/\F'.f=F.f/\F'.d=F.d/\F'.k=0
 ready:gY F' n bg (N+σ'.mine.length) r w'
 ver:Tp.bH bg root es tok ids
 old:∀ (root':Int) (es':List Ent) (oz:Nat) (dQ:List Int),Tp.bH disk root' es' oz dQ->Tp.bH bg root' es' oz dQ
 none_:bg id=none
 view:∀x y,σ.view disk x=some y->bg x=some y
 pg:2<=σ'.pages/\σ'.pages<=max (n:Int) 2
 low:vO bg σ'.free σ'.pages
 tx:TxB F' a.t n σ'.free σ'.pages w'.heap.size w'
 self:Blk w' a.u 134 (zo a.t root 0)
 below:Below F.B w w'
 row:∀ (α:Type) (E:Enc α) (ty:TypeId) (base:Nat) (v:Value) (l:List α),LO E ty w base v l->ty≠117->ty≠230->ty≠9->LO E ty w' base v l
 own:∀ (base:Nat) (v:Value) (l:List Run),Own w base v l->Own w' base v l
theorem DL(h:FSt F n a used disk root σ ids es tok r w)(hd:FOn F n disk N)(hN:N+2000<90000)(hk:F.k+1000<maxLen)(hml:σ.mine.length<=900)(ha:Tp.dF (max (n:Int) 2) σ=some (id,σ')):
  Calls Tryz.prog 30 #[.pointer (some ⟨a.t,0,none⟩)] w fun e w1=>e= .returned (.tuple #[.int .i64 id, .int .i64 0])/\(2<=id/\id<σ'.pages)/\Touch a.t a.m w w1/\
   Calls Tryz.prog 16 #[.pointer (some ⟨a.t,0,none⟩)] w1 fun e w'=>e= .returned (.int .i64 0)/\∃F' bg,FlH F n a disk root id σ σ' ids es tok N r w1 F' bg w':=by
 have hnd:∀i,i∈σ.mine->∃x,σ.nd i=some x:=fun i hi=>by
  obtain⟨y,hy⟩:=h.rt.some_ i (h.mine i hi)
  rw[Tp.jU hi]at hy
  exact⟨y,hy⟩
 obtain⟨a1,a2⟩:=DK ha
 refine(h.on.tm.mem.acQ hnd ha).mono ?_
 rintro e w1 ⟨rfl,hid,hc,⟨D,hH⟩,ht⟩
 have hT:=h.on.tm.touch hc ht
 have hap:=hc.ap
 have acR:id∈σ'.mine:=by rw[a1];simp
 have hrg:=hap.hm id acR
 have hut:a.u≠a.t/\a.u≠a.m:=by
  have h1:=h.on.hu
  have h2:=h.on.tm.low
  constructor<;>omega
 have hself:Blk w1 a.u 134 (zo a.t root 0):=ht.fr.blk h.on.self (fun hk=>by rcases hk with hk | hk<;>omega)
 have hfe:∀x,x≠id->flushed disk σ' x=flushed disk σ x:=fun x hx=>by
  unfold flushed
  rw[a1,a2,if_neg hx]
  by_cases hm:x∈σ.mine
  ·rw[if_pos (List.mem_append_left _ hm),if_pos hm]
  ·rw[if_neg (fun q=>(List.mem_append.1 q).elim hm (fun q=>hx (List.mem_singleton.1 q))),if_neg hm]
 have hne:∀x,Tp.Use used σ x->x≠id:=fun x hx e=>by
  subst e
  rcases hx with hx | hx
  ·have hn:=hap.nd
   rw[a1]at hn
   exact(List.nodup_append.1 hn).2.2 x hx x (by simp) rfl
  ·exact hap.um x hx acR
 refine⟨rfl,⟨hrg.1,hrg.2⟩,ht, ?_⟩
 refine(LH hT hH hd hN hk (by rw[a1];simp;omega)).mono ?_
 rintro e w' ⟨rfl,F',hf⟩
 obtain⟨R,r1,r2,r3⟩:=hT.file
 have hmm:a.m≠F.m:=by have:=(h.on.tm.sep F.m (.inr (.inr (.inr (.inl rfl))))).2;omega
 have htx:=hf.txn r3 hH.txn hmm
 obtain⟨R',q1,q2,q3⟩:=hf.file
 obtain⟨e1,e2,e3,e4,e5,e6,e7,e8⟩:=hf.same
 have hz:=hf.below.size
 have hFw:F.B<=w1.heap.size:=by have:=hT.base.2.1;have:=hT.low.1;have:=hT.low.2.2;omega
 refine⟨rfl,F',flushed disk σ',⟨e1,e2,e3,e6⟩,⟨hf.on,⟨R',q1,q2,q3⟩,hf.ht hT.ht hT.base.1,by rw[e1];exact hT.base.1,by rw[e1];omega⟩,h.ver.congr fun x hx=>hfe x (hne x (h.rt.uses x hx)),fun root' es' oz dQ hv=>(h.old hv).congr fun x hx=> ?_, ?_,fun x y hx=> ?_,⟨hap.pg.1,hap.pg.2.1⟩,fun x y hx=> ?_, ?_,hf.blk a.u _ _ hself (by decide) (by decide) (r3.sty hself (by decide)),hf.below,fun α E ty base v l hl h1 h2 h3=>hf.row r3 hl h1 h2 h3,fun base v l hl=>hf.own r3 hl⟩
 ·obtain⟨y,hy⟩:=hv.some_ x hx
  exact hfe x (hne x (.inr (h.on.tm.on.page x y hy).2.1))
 ·unfold flushed
  rw[if_pos acR,a2,if_pos rfl]
 ·rcases jm hx with⟨h1,h2⟩ | ⟨h1,_,_,_,h5⟩
  ·rw[hfe x (hne x (.inl h1))]
   unfold flushed
   rw[if_pos h1];exact h2
  ·rw[hfe x (hne x (.inr (h.on.tm.on.page x y h5).2.1))]
   unfold flushed
   rw[if_neg h1];exact h5
 ·unfold flushed at hx
  split at hx
  ·rename_i hm
   exact⟨(hap.hm x hm).2,fun hf=>hap.fm x hf hm⟩
  ·have hu:=(hT.on.page x y hx).2.1
   exact⟨(hap.hu x hu).2,fun hf=>hap.fu x hf hu⟩
 ·exact TxB.of (F:=F') (R:=R') (by rw[e2];exact htx) q3 (by rw[e5];exact hmm)
end
section
variable {w0 W W':World}{f0 d0 N t u c:Nat}{disk:Tp.aA}{fl:List Run}{P:Int}{b0 R0:Nat}{vs:List Ct.Ver}{rs:List Int}{i zn cr:Nat}{Ar:Option Addr}
structure IG(w0:World)(f0 d0 N t u c:Nat)(disk:Tp.aA)(fl:List Run)(P:Int)(b0 R0:Nat)(rs:List Int)(i:Nat)(vs:List Ct.Ver)(Ar:Option Addr)(cr:Nat)(W:World):Prop where
 cat:Yd w0 f0 d0 3000 N t u c disk fl P 66 40 i b0 R0 vs W
 ids:∀x∈vs,x.id<=i
 kin:∀z,z∈rs.take i ↔ ∃x∈vs,(x.root:Int)=z
 xB:vs.length<=i
 aak:LO aV 3 W w0.heap.size (.slice Ar rs.length cr) rs
 b0w:w0.heap.size<=b0
theorem LJ(h:IG w0 f0 d0 N t u c disk fl P b0 R0 rs i vs Ar cr W)(hi:i<8)(hil:i<rs.length)(hzr:rs[i]=(zn:Int))(hz:zn<4294967296):
  Calls Tryz.prog 27 #[.pointer (some ⟨c,0,none⟩), .agg #[.int .i64 ((i:Int)+1), .int .i64 0, .int .i64 zn, .int .i64 0]] W fun e W'=>e= .returned (.int .i64 0)/\∃vs',IG w0 f0 d0 N t u c disk fl P b0 R0 rs (i+1) vs' Ar cr W':=by
 have hp:=LG h.cat (by omega) (by omega) (by omega) (v:=⟨i+1,0,zn,0⟩) ⟨by simp,by simp;omega,by simp,hz,by simp⟩ (fun x hx e=>by have:=h.ids x hx;simp only at e;omega)
 simp only at hp
 rw[show((i+1:Nat):Int)=(i:Int)+1 from by omega,show((0:Nat):Int)=0 from rfl]at hp
 refine hp.mono ?_
 rintro e W' ⟨rfl,⟨vs',h1,h2,h3⟩,hk,hf⟩
 refine⟨rfl,vs',h1,fun x hx=> ?_,fun z=> ?_,by have:=h.xB;omega,hk _ _ _ _ _ _ h.aak (.inr (.inl rfl)),h.b0w⟩
 ·rcases(h2 x).1 hx with rfl | hx
  ·exact Nat.le_refl _
  ·have:=h.ids x hx;omega
 ·rw[List.take_succ_eq_append_getElem hil,List.mem_append,h.kin,List.mem_singleton,hzr]
  constructor
  ·rintro(⟨x,hx,e⟩ | rfl)
   ·exact⟨x,(h2 x).2 (.inr hx),e⟩
   ·exact⟨_,(h2 _).2 (.inl rfl),rfl⟩
  ·rintro⟨x,hx,e⟩
   rcases(h2 x).1 hx with rfl | hx
   ·exact .inr e.symm
   ·exact .inl ⟨x,hx,e⟩
structure LvA(w0:World)(f0 d0 N t u:Nat)(disk:Tp.aA)(fl:List Run)(P:Int)(vs:List Ct.Ver)(rs:List Int)(F:aT)(a:TAd)(root:Int)(σ:Tp.Pst)(ids:List Int)(tok r:Nat)(all:List Int)(W:World):Prop where
 fs:F.f=f0/\F.d=d0/\a.t=t/\a.u=u/\F.k+1000<maxLen/\w0.heap.size<=F.B
 on:FOn F 3000 disk N
 st:FSt F 3000 a (Rp.minus [(2,P-1)] fl) disk root σ ids (vs.map Ct.kX) tok r W
 uH:tok<=40
 pg:σ.pages<=P+66
 ok:∀v∈vs,v.Ok
 xB:vs.length<=8
 vers:jL disk rs
 kin:∀z,z∈rs ↔ ∃x∈vs,(x.root:Int)=z
 yF:AllOf (σ.view disk) (root::vs.map (fun v=>(v.root:Int))) all
 pos:∀x∈all,0<x
 II:all.length<=5400
 hF:∀x,FU F a x->w0.heap.size<=x
 below:Below w0.heap.size w0 W
theorem LK(h:IG w0 f0 d0 N t u c disk fl P b0 R0 rs rs.length vs Ar cr W)(hvs:jL disk rs)(hlr:rs.length<=8)(hR:R0=280000):∃F a root σ ids tok all,LvA w0 f0 d0 N t u disk fl P vs rs F a root σ ids tok 280000 all W:=by
 have hbel:=h.cat.g.below
 have hok:=h.cat.ok
 have OZ:=h.kin
 rw[List.take_length]at OZ
 have hvl:=h.xB
 obtain⟨⟨⟨F,a,e1,e2,e3,e4,e5,e6,e7,⟨root,σ,ids,tok,hst,htk,hpg⟩,hF,hlow,hb0,ae7⟩,g2,g3⟩,hc,hcb,_⟩:=h.cat
 obtain⟨hnv,hps⟩:=hst.Ez
 have hfw:=kF hnv
 have hvv:jL (σ.view disk) (root::rs):=fun x hx=>by
  rcases List.mem_cons.1 hx with rfl | hx
  ·exact⟨_,tok,ids,hnv,by omega⟩
  ·obtain⟨es,tk,is,q1,q2⟩:=hvs x hx
   exact⟨es,tk,is,(hst.aeQ q1).1,q2⟩
 obtain⟨g,hg⟩:=hvv.g
 obtain⟨ha1,hn1⟩:=hg.yF (l:=root::vs.map (fun v=>(v.root:Int))) (fun x hx=>by
  rcases List.mem_cons.1 hx with rfl | hx
  ·exact List.mem_cons_self
  ·obtain⟨v,hv,e⟩:=List.mem_map.1 hx
   exact List.mem_cons_of_mem _ ((OZ x).2 ⟨v,hv,e⟩))
 have hl1:(root::vs.map (fun v=>(v.root:Int))).length<=9:=by simp;omega
 exact⟨F,a,root,σ,ids,tok,_,⟨e1,e2,e6,e7,e3,e4⟩,e5,hst.less (by omega),by omega,hpg,hok,by omega,hvs,OZ,ha1,fun x hx=>by
  obtain⟨_,es,tk,is,_,q2,q3,_⟩:=ha1.inn x hx
  obtain⟨y,hy⟩:=q2.some_ x q3
  exact Aw hst.on.tm hy,by omega,hF,hbel⟩
end
end Go.Proofs.YteppebbmnojapaaGreatDoor
namespace Go.Proofs.YteppebbmnojapaaGreatDoor
open Go.RowKit Go.Shelf
attribute [local go_sem] Oper.semAt_some
theorem EF{F:Fence}{n:Nat}{P:Program}{w:World}{ops:Array Oper}{rest:List Oper}{o:Oper}{a:Act}{Q:Exit->Act->World->Prop}(hgd:o.guard=none)(s x:Operand)(t:TypeId)
  (ho:o.op= .call { callee:= .builtin .append,args:= #[s,x],argTypes:= #[t,t] })
  {base:Nat} {e:TypeId} {z:Value} {size bytes:Nat} (hE:EI P e z size bytes) (ht:P.underlying t=some (.slice e)) (hzs:z.cells.size=size) (hsz:0<size)
  {v:Value} {m:Nat} {xs:List Value} (hs:a.eval s=v) (hown:w.ownsRow base e size v m xs)
  {cs:Array Value} {te:TypeId} {gx:Nat} (hx:a.eval x= .slice (some ⟨gx,0,none⟩) 1 1) (hgx:gx=w.heap.size) (hl:cs.size=size) (h1:∀u∈cs.toList,u.oneCell'=true)
  (UQ:m+1<=maxLen) (hbytes:(m+1)*bytes<=140737488355328) (hbase:base<=w.heap.size)
  (h:∀v' w',w'.ownsRow base e size v' (m+1) (xs++cs.toList)->w.grownBy w' v.ownBlock->Below base w w'->wpListIn F n P ops Q rest (a.put o.dst v') w'):wpListIn F n P ops Q (o::rest) a (w.alloc (.cells cs te)):=by
 obtain⟨i,hi,hz0,hz1,hz2⟩:=hE
 subst hgx
 have hcell:∀j u,cs.toList[j]? =some u->(w.alloc (.cells cs te)).cell? ((⟨w.heap.size,0,none⟩:Addr).add j)=some u:=by
  intro j u hu
  have e1:((⟨w.heap.size,0,none⟩:Addr).add j)=⟨w.heap.size,j,none⟩:=by rw[Addr.add_lit];simp
  rw[e1,(Blk.new w te cs).cell j]
  simpa using hu
 refine wpListIn_append_own _ hgd s x t ho base e i z size bytes ht hi hz0 hz1 hz2 hzs hsz v m xs hs (hown.alloc _) ⟨w.heap.size,0,none⟩ 1 1 cs.toList hx (by simp[hl]) hcell h1 UQ hbytes (by simp;omega) fun v' w' h2 h3 _=> ?_
 have hg:w.grownBy w' v.ownBlock:=(World.grownBy_alloc w _ _).trans h3
 exact h v' w' h2 hg ((Below.refl _ _).grown hg hbase fun k hk=>(hown.lt k hk).1)
theorem acS{W W':World}{g:Nat}{ty:TypeId}{cs:Array Value}{row:Option Nat}(h:Blk W g ty cs)(hg:W.grownBy W' row)(hr:∀r,row=some r->∃o:Obj,W.heap[r]? =some o/\o.isCells=false):Blk W' g ty cs:=by
 refine(hg.block g h.lt ?_).trans h
 intro e
 obtain⟨o,ho,hne⟩:=hr g e.symm
 unfold Blk at h
 rw[h]at ho;cases ho
 cases hne
theorem LO.nc{α:Type}{E:Enc α}{ty:TypeId}{W W':World}{base:Nat}{v:Value}{l:List α}{row:Option Nat}(h:LO E ty W base v l)(hg:W.grownBy W' row)(hr:∀r,row=some r->∃o:Obj,W.heap[r]? =some o/\o.isCells=false):LO E ty W' base v l:=
 h.keep hg fun r e=>by
  obtain⟨o,ho,hne⟩:=hr r e
  exact⟨o,ho,fun cs e=>by rw[e]at hne;cases hne⟩
theorem O1(A:Option Addr)(c Bn:Nat)(zs:List Int)(hl:zs.length<=100000)(w:World)(hr:LS aV w w.heap.size A zs)(hb:Blk w Bn 49 #[.slice A zs.length c]):
  Calls Tryz.prog 232 #[.slice none 0 0, .func (.func 165) #[] #[.pointer (some ⟨Bn,0,none⟩)]] w (qH aV 3 zs w):=by
 refine(callsIn_wide (n:=2)).1 ?_
 refine callsIn_of_wp_marks Tryz.func232 rfl trivial ?_ rfl
 simp only[Tryz.ntmps232,List.size_toArray,List.length_cons,List.length_nil,Nat.reduceAdd,Nat.reduceSub,Array.replicate_succ,Array.replicate_zero,List.push_toArray,List.append_toArray,List.nil_append,List.cons_append]
 gi_wp2
 have hB0:Below w.heap.size w (w.alloc (.cells #[.slice none 0 0] 49)):=(Below.refl _ w).alloc (Nat.le_refl _) _
 have hS:=Blk.new w 49 #[.slice none 0 0]
 have hsz:(w.alloc (.cells #[.slice none 0 0] 49)).heap.size=w.heap.size+1:=by simp
 obtain⟨wl,hwl⟩:∃wl,w.alloc (.cells #[.slice none 0 0] 49)=wl:=⟨_,rfl⟩
 rw[hwl]at hB0 hS hsz ⊢
 clear hwl
 have hseq:SeqStopsK Fence.wide 1 Tryz.prog 165 #[.pointer (some ⟨Bn,0,none⟩)] (fun x=> #[.int .i64 x]) (Below w.heap.size) (fun ys=>ys=zs) (fun pre=>pre <+: zs) zs.length wl:=by
  intro lp J Jx W hW hJ _ hY h0
  refine values1_in lp Bn c A zs (by omega) J Jx (Below w.heap.size) W (fun W=>Below.refl _ _) (fun _ _ _ h k=>h.trans k) (fun W' hk=> ?_) hY h0
  have hbW:=hB0.trans ((hW.mono (by omega)).trans hk)
  exact⟨(hr.below hbW).more hbW.size,(hb.below hbW hb.lt).cell 0⟩
 refine wpIn_rangeFunc_ownH rfl (by decide) (gf:=165) (lb:= #[.pointer (some ⟨Bn,0,none⟩)]) rfl trivial (enters_of Tryz.func165 (by kernel_rfl) rfl)
  hseq (fun h k=>h.trans k) (fun W l o o' hl h hc hw=>belowK_b (w:=w) (Nat.le_refl _) W l o o' (by omega) h hc hw) (Below.refl _ _) (fun _=>rfl)
  (fun pre W=>(∃v,Blk W w.heap.size 49 #[v]/\LO aV 3 W w.heap.size v pre)/\Below w.heap.size w W)
  (fun _ _ _=>False)
  (OwnFrom.and (fun s W1 W2 row hs hg hr=>by obtain⟨v,a1,a3⟩:=hs;exact⟨v,acS a1 hg fun r e=>(hr r e).2,a3.nc hg fun r e=>(hr r e).2⟩) (ownFrom_below (Nat.le_refl _) (by omega)))
  (fun _ _ _ _ _ h _ _=>h)
  ⟨⟨_,hS,LO.nil_ _ _⟩,hB0⟩
  (fun x a' _W=>a'= { tmps:= #[.slice none 0 0, .func (.func 165) #[] #[.pointer (some ⟨Bn,0,none⟩)], .pointer (some ⟨w.heap.size,0,none⟩),undef, .slice none 0 0, .int .i64 x, .func (.func 165) #[] #[.pointer (some ⟨Bn,0,none⟩)], .int .i64 x,undef,undef,undef,undef,undef],defers:= [] })
  (fun _ _ _ _ _ _ hs _ _=>hs)
  ?assign ?body ?done ?stop
 case assign=>
  rintro lp pre x W K ⟨⟨v,a1,a3⟩,hB⟩ hK
  gi_wp2
  exact hK _ _ (KeepsFrom.refl _ _) (Below.refl _ _) ⟨⟨v,a1,a3⟩,hB⟩ rfl
 case body=>
  rintro lp pre x a' W hlp _ ⟨⟨v,a1,a3⟩,hB⟩ rfl hlt
  have hl1:=a1.lt
  have c1:=a1.cell 0
  obtain⟨Av,cv,rfl⟩:=a3.form
  have hraw:=a3.raw rfl (s:=1) rfl
  gi_wp2_with (gi_at_builtin;refine EF rfl (.tmp 8) (.tmp 10) 49 rfl wL Tryz.underlying49 rfl (by decide) rfl hraw rfl (by simp) rfl (by simp[Value.oneCell']) (by unfold maxLen;omega) (by omega) hB.size ?_;intro v' w1 hown' hgrow hbel;obtain⟨A6,c6,rfl⟩:=gZ hown';have a1':=a1.grown hgrow (Ne.symm (aB hraw a1 (by decide)));have d1:=a1'.cell 0;have f1:=a1'.frozen 0;have l1:=a1'.lt)
  refine⟨KeepsOthers.from ((KeepsOthers.of_grownBy hgrow fun j o hj ho=> ?_).trans (KeepsOthers.setCell _ _ _)) _,hbel.setCell (p:=⟨w.heap.size,0,none⟩) (Nat.le_refl _) _,⟨_,a1'.aW 0 _, ?_⟩,(hB.trans hbel).setCell (p:=⟨w.heap.size,0,none⟩) (Nat.le_refl _) _⟩
  ·obtain⟨cs,hcs⟩:=fG hraw hj
   rw[hcs]at ho;cases ho;rfl
  ·exact LO.aW (LO.snoc (E:=aV) rfl rfl rfl hown') a1' (by decide)
 case done=>
  rintro D ys W hD rfl ⟨⟨v,a1,a3⟩,hB⟩ hK
  have hl1:=a1.lt
  have c1:=a1.cell 0
  obtain⟨Av,cv,rfl⟩:=a3.form
  gi_wp2
  have a3n:=a3.nc (grownBy_putObj' _ D (.deferred none)) (fun r e=>by cases e;exact⟨_,hK,rfl⟩)
  refine⟨by simp, .inl ⟨_,_,rfl,run_takeDeferred hK, ?_⟩⟩
  refine⟨.slice Av ys.length cv, ?_,_,rfl,a3n.lower ?_,hB.trans (belowK_b (w:=w) (Nat.le_refl _) W D _ _ (by omega) hK rfl rfl)⟩
  ·simp[results,Tryz.f232,go_sem]
  ·exact Nat.le_refl _
 case stop=>
  rintro D k pre W hD hpre ⟨⟩
end Go.Proofs.YteppebbmnojapaaGreatDoor
