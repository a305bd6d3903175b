/- Part of this proof. -/
import Derived.Lib.SlicesCompact
import Derived.Sort.LoopGhostIn
import Derived.Test.YteppebbmnojapaaGreatDoorL38
import Derived.Test.YteppebbmnojapaaGreatDoorL39
set_option maxRecDepth 100000
set_option maxHeartbeats 8000000
namespace Go.Proofs.YteppebbmnojapaaGreatDoor
open Go.RowKit Go.Sort Go.Shelf
theorem yH(l:List Int):aV.cells l=l.map (Value.int .i64):=by
 induction l with
 |nil=>rfl
 |cons x l ih=>rw[Enc.dB,ih];rfl
theorem Gh{w:World}{base g cap n:Nat}{l:List Int}(h:w.ownsRow base 3 1 (.slice (some ⟨g,0,none⟩) n cap) n (l.map (Value.int .i64))):Holds (Value.int .i64) w g 0 l.toArray:=by
 have hn:n=l.length:=by have:=h.1;simpa using this.symm
 intro j hj
 have hj':j<l.length:=by simpa using hj
 refine⟨?_, ?_⟩
 ·rw[Nat.zero_add,h.cellAt j (by omega)]
  simp[hj']
 ·rw[Nat.zero_add];exact h.frozenAt j
theorem aal{w:World}{base g cap n:Nat}{l:List Int}(h:w.ownsRow base 3 1 (.slice (some ⟨g,0,none⟩) n cap) n (l.map (Value.int .i64)))(q:Nat)(d:Array Int)(os:Array Obj)(hd:d.size=l.length):
  (grow (putRow (Value.int .i64) (Sort.ahead w q) g 0 d) os).ownsRow base 3 1 (.slice (some ⟨g,0,none⟩) n cap) n (d.toList.map (Value.int .i64))/\w.grownBy (grow (putRow (Value.int .i64) (Sort.ahead w q) g 0 d) os) (some g):=by
 have hn:n=l.length:=by have:=h.1;simpa using this.symm
 rcases h.2 with⟨hv,_⟩ | ⟨g',cap',cur,hv,hb,hh,hc,hm,hs,ht⟩
 ·cases hv
 ·injection hv with e1 e2 e3
  injection e1 with e1
  injection e1 with e1
  subst e1 e3
  have hlt:g<w.heap.size:=by
   rcases Nat.lt_or_ge g w.heap.size with hlt | hge
   ·exact hlt
   ·rw[Array.getElem?_eq_none hge]at hh;cases hh
  have hheap:(grow (putRow (Value.int .i64) (Sort.ahead w q) g 0 d) os).heap[g]? =some (.cells (putCells (Value.int .i64) 0 d cur) 3 (0,0)):=by
   rw[heap_grow_old _ _ (by simpa using hlt)]
   unfold putRow mapBlock
   simp only[Array.getElem?_modify,heap_ahead,if_true,hh]
   rfl
  refine⟨⟨by simp[hd,hn], .inr ⟨g,cap,_,rfl,hb,hheap,hc,hm,by unfold putCells;simpa using hs, ?_⟩⟩, ?_⟩
  ·apply List.ext_getElem?
   intro t
   by_cases htk:t<n*1
   ·rw[List.getElem?_take_of_lt htk]
    have htc:t<cur.size:=by omega
    have htd:t<d.size:=by omega
    unfold putCells
    simp only[Array.getElem?_toList,Array.getElem?_mapIdx]
    rw[Array.getElem?_eq_getElem htc]
    simp[htd]
   ·rw[List.getElem?_eq_none (by simp;omega),List.getElem?_eq_none (by simp;omega)]
  ·refine⟨rfl,rfl,rfl,by simp,fun i hi hne=> ?_⟩
   rw[heap_grow_old _ _ (by simpa using hi)]
   unfold putRow mapBlock
   have:g≠i:=fun h=>hne (by rw[h])
   simp[Array.getElem?_modify,this]
theorem LP(A:Option Addr)(c Bn:Nat)(zs:List Int)(hl:zs.length<=100000)(w:World)(hr:LS aV w w.heap.size A zs)(hb:Blk w Bn 49 #[.slice A zs.length c]):
  Calls Tryz.prog 164 #[.func (.func 165) #[] #[.pointer (some ⟨Bn,0,none⟩)]] w (qH aV 3 zs w):=by
 have h:=O1 A c Bn zs hl w hr hb
 go_enter Tryz.func164,Tryz.ntmps164
 go_wp2_with (go_at_call 232;refine h.mono ?_;rintro e w1 ⟨v,rfl,ho,hbe⟩)
 go_ret
 exact⟨_,rfl,ho,hbe⟩
def nD(zs:List Int):List Int:=zs.mergeSort fun x y=>decide (x<=y)
theorem tK(zs:List Int):(nD zs).length=zs.length:=by unfold nD;rw[List.length_mergeSort]
theorem Uu{base:Nat}{v:Value}{zs:List Int}{w:World}(ho:LO aV 3 w base v zs)(hl:zs.length<=100000):
  Calls Tryz.prog 110 #[v] w fun e w'=>e= .returned (.tuple #[])/\LO aV 3 w' base v (nD zs)/\Below base w w':=by
 have hown:w.ownsRow base 3 1 v zs.length (zs.map (Value.int .i64)):=by have h:=ho.raw rfl (s:=1) rfl;rwa [yH]at h
 rcases hown.2 with⟨rfl,h0⟩ | ⟨g,cap,cur,rfl,hb,hh,hc⟩
 ·have hl0:zs= []:=List.eq_nil_of_length_eq_zero h0
  subst hl0
  refine Calls.mono (AnyM.slices_Sort_int_none Tryz.sortC none 0 w) ?_
  rintro e w' ⟨rfl,rfl⟩
  exact⟨rfl,by rw[show nD []= []by simp[nD]];exact ho,Below.refl _ _⟩
 ·have hlt:g<w.heap.size:=(hown.lt g rfl).2
  refine Calls.mono (AnyM.slices_Sort_int Tryz.sortC g 0 cap zs w (Gh hown) hlt (by omega)) ?_
  rintro e w' ⟨rfl,n,os,rfl⟩
  obtain⟨h1,h2⟩:=aal hown n (zs.mergeSort fun x y=>decide (x<=y)).toArray os (by simp)
  refine⟨rfl, ?_,(Below.refl _ _).grown h2 (by omega) (fun k e=>by cases e;exact hb)⟩
  have h1:World.ownsRow _ base 3 1 (.slice (some ⟨g,0,none⟩) zs.length cap) zs.length ((nD zs).map (Value.int .i64)):=h1
  rw[<-yH, <-tK]at h1
  unfold LO
  rw[tK]at h1 ⊢
  exact h1
theorem DN(A:Option Addr)(c Bn:Nat)(zs:List Int)(hl:zs.length<=100000)(w:World)(hr:LS aV w w.heap.size A zs)(hb:Blk w Bn 49 #[.slice A zs.length c]):
  Calls Tryz.prog 89 #[.func (.func 165) #[] #[.pointer (some ⟨Bn,0,none⟩)]] w (qH aV 3 (nD zs) w):=by
 have h:=LP A c Bn zs hl w hr hb
 have hs:=fun v W (ho:LO aV 3 W w.heap.size v zs)=>Uu ho hl
 go_enter Tryz.func89,Tryz.ntmps89
 go_wp2_with fail
 refine h.mono ?_
 rintro e w1 ⟨v,rfl,ho,hbe⟩
 go_wp2_with fail
 refine Calls.mono (hs v w1 ho) ?_
 rintro e w2 ⟨rfl,ho2,hb2⟩
 go_wp2
 go_ret
 exact⟨_,rfl,ho2,hbe.trans hb2⟩
theorem zG{base:Nat}{v:Value}{zs:List Int}{w:World}(ho:LO aV 3 w base v zs)(hl:zs.length<=100000):
  Calls Tryz.prog 91 #[v] w fun e w'=>(∃A c,e= .returned (.slice A (Lib.compact zs).length c))/\Below base w w':=by
 have hown:w.ownsRow base 3 1 v zs.length (zs.map (Value.int .i64)):=by have h:=ho.raw rfl (s:=1) rfl;rwa [yH]at h
 rcases hown.2 with⟨rfl,h0⟩ | ⟨g,cap,cur,rfl,hb,hh,hc,hm,_⟩
 ·have hl0:zs= []:=List.eq_nil_of_length_eq_zero h0
  subst hl0
  refine Calls.mono (Any.slices_Compact_int_empty Tryz.lays20 none 0 w) ?_
  rintro e w' ⟨rfl,rfl⟩
  exact⟨⟨none,0,rfl⟩,Below.refl _ _⟩
 ·have hlt:g<w.heap.size:=(hown.lt g rfl).2
  refine Calls.mono (Any.slices_Compact_int Tryz.lays20 g 0 cap zs w (Gh hown) (by omega) hc) ?_
  rintro e w' ⟨rfl,q,rfl⟩
  refine⟨⟨_,_,rfl⟩,(Below.refl _ _).grown (row:=some g) ?_ (by omega) (fun k e=>by cases e;exact hb)⟩
  refine⟨rfl,rfl,rfl,by simp,fun i hi hne=> ?_⟩
  unfold putRow mapBlock
  have:g≠i:=fun h=>hne (by rw[h])
  simp[Array.getElem?_modify,this]
end Go.Proofs.YteppebbmnojapaaGreatDoor
namespace Dp
open Go
theorem LQ(l:List Int):(Lib.compact l).length=l.length ↔ ∀j,j<l.length->Lib.keeps l.toArray j=true:=by
 unfold Lib.compact Lib.compactUpTo
 rw[List.length_map]
 constructor
 ·intro h j hj
  have h2:(List.filter (Lib.keeps l.toArray) (List.range l.length)).length=(List.range l.length).length:=by rw[h,List.length_range]
  exact List.length_filter_eq_length_iff.1 h2 j (List.mem_range.2 hj)
 ·intro h
  have h2:(List.filter (Lib.keeps l.toArray) (List.range l.length)).length=(List.range l.length).length:=List.length_filter_eq_length_iff.2 fun j hj=>h j (List.mem_range.1 hj)
  rw[h2,List.length_range]
theorem Gi(l:List Int)(j:Nat)(hj:j+1<l.length):Lib.keeps l.toArray (j+1)=true ↔ l[j+1]≠l[j]:=by
 unfold Lib.keeps
 simp only[Nat.add_sub_cancel]
 rw[getElem!_pos l.toArray (j+1) (by simpa using hj),getElem!_pos l.toArray j (by simp;omega)]
 simp
theorem Uw{l:List Int}(hs:l.Pairwise (· <= ·)):(∀j,j<l.length->Lib.keeps l.toArray j=true) ↔ l.Nodup:=by
 rw[List.pairwise_iff_getElem]at hs
 constructor
 ·intro h
  unfold List.Nodup
  rw[List.pairwise_iff_getElem]
  intro i j hi hj hij
  obtain⟨q,rfl⟩:∃q,j=q+1:=⟨j-1,by omega⟩
  have h1:=(Gi l q hj).1 (h (q+1) hj)
  have h2:=hs q (q+1) (by omega) hj (by omega)
  have h3:l[i]<=l[q]'(by omega):=by
   by_cases e:i=q
   ·subst e;exact Int.le_refl _
   ·exact hs i q hi (by omega) (by omega)
  omega
 ·intro h j hj
  cases j with
  |zero=>exact Lib.keeps_lt_one _ 0 (by omega)
  |succ j=>
   rw[Gi l j hj]
   unfold List.Nodup at h
   rw[List.pairwise_iff_getElem]at h
   exact(h j (j+1) (by omega) hj (by omega)).symm
theorem xC(zs:List Int):(Lib.compact (zs.mergeSort fun x y=>decide (x<=y))).length<zs.length ↔ ¬zs.Nodup:=by
 have hp:(zs.mergeSort fun x y=>decide (x<=y)).Perm zs:=List.mergeSort_perm _ _
 have hs:(zs.mergeSort fun x y=>decide (x<=y)).Pairwise (· <= ·):=by
  have h:=List.pairwise_mergeSort (le:=fun x y:Int=>decide (x<=y)) (fun a b c h1 h2=>by simp at *;omega) (fun a b=>by simp;omega) zs
  exact h.imp (by simp)
 have h1:=LQ (zs.mergeSort fun x y=>decide (x<=y))
 have hle:(Lib.compact (zs.mergeSort fun x y=>decide (x<=y))).length<=(zs.mergeSort fun x y=>decide (x<=y)).length:=by
  unfold Lib.compact Lib.compactUpTo
  rw[List.length_map]
  exact Nat.le_trans (List.length_filter_le _ _) (by rw[List.length_range];exact Nat.le_refl _)
 rw[Uw hs,hp.nodup_iff,hp.length_eq]at h1
 rw[hp.length_eq]at hle
 constructor
 ·intro h hn
  have:=h1.2 hn
  omega
 ·intro h
  have:(Lib.compact (zs.mergeSort fun x y=>decide (x<=y))).length≠zs.length:=fun e=>h (h1.1 e)
  omega
end Dp
namespace Go.Proofs.YteppebbmnojapaaGreatDoor
open Go.RowKit Go.Shelf
theorem Gj(f:Nat)(w:World):Calls Tryz.prog 93 #[.pointer (some ⟨f,0,none⟩)] w fun e w'=>e= .returned (.pointer (some ⟨f,0,none⟩))/\w'=w:=by
 go_enter Tryz.func93,Tryz.ntmps93
 go_wp2
 go_ret
 exact⟨rfl,rfl⟩
def xE:Dk->List Run->List Int->Int × Dk
 |D,_, []=>(0,D)
 |D,s,id::r=>match Cp.body (r.headD 0) (s.take 29)with
  |none=>(40,D)
  |some b=>if D.jc id b=0 then xE (D.dW id 3 b) (s.drop 29) r else(D.jc id b,D.dW id 3 b)
def DR(ids:List Int)(x:Int):Int × Int:=if x=0 then(ids.headD 0,0)else(0,x)
theorem Yg{α:Type}{c:Prop} [Decidable c]{a b:α}(h:(if c then some a else none)=some b):c/\a=b:=by
 split at h
 ·rename_i hc;exact⟨hc,Option.some.inj h⟩
 ·cases h
theorem LW{α:Type}{c:Prop} [Decidable c]{x:Option α}{b:α}(h:(if c then none else x)=some b):x=some b:=by
 split at h
 ·cases h
 ·exact h
theorem Cp.Gl{s:Bs}{n:Int}{l:List Run}(h:Cp.prog s=some (n,l)):Cp.body n l=some s:=by
 rw[Cp.Pz]at h
 obtain⟨hb,he⟩:=Yg (LW (LW h))
 rw[Prod.mk.injEq]at he
 rw[he.1,he.2]at hb
 exact hb
theorem Cp.DU{s:Bs}{n:Int}{l:List Run}(h:Cp.body n l=some s):Cp.fits 4 n=true/\l.length<=29/\l.all Cp.jQ=true:=by
 unfold Cp.body at h
 split at h
 ·rename_i hb
  rw[Bool.and_eq_true,Bool.and_eq_true]at hb
  exact⟨hb.1.1,by simpa using hb.1.2,hb.2⟩
 ·cases h
theorem Cp.ae8{n:Int}(h:Cp.fits 4 n=true):0<=n/\n<4294967296:=by
 unfold Cp.fits at h
 rw[Bool.and_eq_true]at h
 have h1:=h.1
 have h2:=h.2
 simp at h1 h2
 omega
theorem ae9{n:Nat}{down:Bool}{id:Int}{o:Option (Nat × Bs)}(h:(fo n down id o).1.2.2=0):
  aS n id=false/\down=false/\∃b nx l,o=some (3,b)/\Cp.prog b=some (nx,l)/\fo n down id o=((id,l,0),nx):=by
 unfold fo at h ⊢
 by_cases hx:(frB n down id 3 o).2=0
 ·rw[hx]at h ⊢
  rw[wM rfl]at h ⊢
  have hp:∃p,Cp.prog (frB n down id 3 o).1=some p:=by
   cases hc:Cp.prog (frB n down id 3 o).1 with
   |none=>rw[hc]at h;exact absurd h (by show ¬ (3:Int)=0;decide)
   |some p=>exact⟨p,rfl⟩
  obtain⟨⟨nx,l⟩,hp⟩:=hp
  unfold frB at hx hp
  cases hno:aS n id with
  |true=>rw[hno]at hx;cases hx
  |false=>
   rw[hno]at hx hp
   cases hdn:down with
   |true=>rw[hdn]at hx;cases hx
   |false=>
    rw[hdn]at hx hp
    cases o with
    |none=>cases hx
    |some kb=>
     obtain⟨k,b⟩:=kb
     by_cases hk:k=3
     ·subst hk
      refine⟨rfl,rfl,b,nx,l,rfl,hp, ?_⟩
      unfold frB
      rw[hno]
      show foP id (Cp.prog b)=_
      have hp':Cp.prog b=some (nx,l):=hp
      rw[hp'];rfl
     ·have:(if k=3 then(b,(0:Int))else([],3)).2=0:=hx
      rw[if_neg hk]at this
      cases this
 ·rw[BD hx]at h
  have h':(if(frB n down id 3 o).2=40 then(3:Int)else(frB n down id 3 o).2)=0:=h
  split at h'
  ·cases h'
  ·exact absurd h' hx
theorem Yh(n:Nat)(down:Bool)(id:Int)(o:Option (Nat × Bs)):(fo n down id o).1.2.1.length<=29:=by
 unfold fo
 by_cases hx:(frB n down id 3 o).2=0
 ·rw[hx,wM rfl]
  cases hc:Cp.prog (frB n down id 3 o).1 with
  |none=>exact Nat.zero_le _
  |some p=>
   obtain⟨nx,l⟩:=p
   exact(Cp.DU (Cp.Gl hc)).2.1
 ·rw[BD hx];exact Nat.zero_le _
theorem Qy{n:Nat}{down:Bool}{id:Int}{o:Option (Nat × Bs)}(h:(fo n down id o).1.2.2=0):2<=id/\id<(n:Int)/\0<=(fo n down id o).2/\(fo n down id o).2<4294967296:=by
 obtain⟨h1,h2,b,nx,l,rfl,hp,he⟩:=ae9 h
 rw[he]
 have hb:¬id<2/\¬ (n:Int)<=id:=by simpa[aS]using h1
 have hf:=Cp.ae8 (Cp.DU (Cp.Gl hp)).1
 exact⟨by omega,by omega,hf.1,hf.2⟩
def chL(n:Nat)(down:Bool)(pg:Int->Option (Nat × Bs)):Nat->List Int->Int->List Lnk
 |0,_,_=> []
 |k+1,met,id=>if id=0 then []else if id∈met then [(0, [],3)]else
   (fo n down id (pg id)).1::(if(fo n down id (pg id)).1.2.2=0 then chL n down pg k (id::met) (fo n down id (pg id)).2 else [])
def chD(n:Nat)(down:Bool)(pg:Int->Option (Nat × Bs)):Nat->Dk->List Int->Int->Dk
 |0,D,_,_=>D
 |k+1,D,met,id=>if id=0 then D else if id∈met then D else
   (if(fo n down id (pg id)).1.2.2=0 then chD n down pg k (D.bG id) (id::met) (fo n down id (pg id)).2 else D.bG id)
section
variable {n:Nat}{down:Bool}{pg:Int->Option (Nat × Bs)}{k:Nat}{D:Dk}{met:List Int}{id:Int}
theorem rV(k:Nat)(met:List Int):chL n down pg k met 0= []:=by cases k<;>rfl
theorem xG(k:Nat)(D:Dk)(met:List Int):chD n down pg k D met 0=D:=by cases k<;>rfl
theorem AA(h0:id≠0)(hm:id∈met):chL n down pg (k+1) met id= [(0, [],3)]:=by unfold chL;rw[if_neg h0,if_pos hm]
theorem AB(h0:id≠0)(hm:id∈met):chD n down pg (k+1) D met id=D:=by unfold chD;rw[if_neg h0,if_pos hm]
theorem pV(h0:id≠0)(hm:id ∉ met){y:Lnk × Int}(hy:y=fo n down id (pg id)):chL n down pg (k+1) met id=y.1::(if y.1.2.2=0 then chL n down pg k (id::met) y.2 else []):=by
 rw[hy,chL,if_neg h0,if_neg hm]
theorem DV(h0:id≠0)(hm:id ∉ met){y:Lnk × Int}(hy:y=fo n down id (pg id)):chD n down pg (k+1) D met id=if y.1.2.2=0 then chD n down pg k (D.bG id) (id::met) y.2 else D.bG id:=by
 rw[hy,chD,if_neg h0,if_neg hm]
theorem Qz(h:chL n down pg k met id= []):chD n down pg k D met id=D:=by
 cases k with
 |zero=>rfl
 |succ k=>
  by_cases h0:id=0
  ·subst h0;exact xG _ _ _
  ·by_cases hm:id∈met
   ·exact AB h0 hm
   ·rw[pV h0 hm rfl]at h;cases h
end
theorem QA{n:Nat}{met:List Int}(hn:met.Nodup)(hb:∀x∈met,2<=x/\x<(n:Int)):met.length<=n:=by
 have hs:met ⊆ (List.range n).map (fun i:Nat=>(i:Int)):=fun x hx=>by
  have:=hb x hx
  exact List.mem_map.2 ⟨x.toNat,List.mem_range.2 (by omega),by omega⟩
 have:=List.Nodup.length_le_of_subset hn hs
 simpa using this
structure pW(D D':Dk):Prop where
 sure:D'.sure=D.sure
 now:D'.now=D.now
 down:D'.down=D.down
theorem pW.refl(D:Dk):pW D D:=⟨rfl,rfl,rfl⟩
theorem pW.bG{D D':Dk}(h:pW D D')(i:Int):pW D (D'.bG i):=by
 unfold Dk.bG
 split
 ·exact h
 ·split
  ·exact h
  ·exact⟨h.sure,h.now,h.down⟩
theorem pW.get{D D':Dk}(h:pW D D')(i:Int):D'.get i=D.get i:=by unfold Dk.get;rw[h.sure,h.now]
theorem pW.page{D D':Dk}(h:pW D D'){i:Int}{o:Option (Nat × Bs)}(hp:iH D i o):iH D' i o:=by unfold iH;rw[h.get];exact hp
def jO(v:Value):Option (DataW Value × List MemPlace):=
 match v with
 | .bool _=>some (.held v, [])
 |_=>none
theorem pX(b:Bool):jO (.bool b)=some (.held (.bool b), []):=rfl
theorem Gm{v:Value}{z:DataW Value × List MemPlace}(h:jO v=some z):∃b,v= .bool b/\z=(.held (.bool b), []):=by
 unfold jO at h
 split at h
 ·rename_i b;exact⟨b,rfl,by cases h;rfl⟩
 ·cases h
def rW(D:DataW Value)(met:List Int):Prop:=∀ (i:Int) (z:DataW Value),D.atKey (.int .i64 i) z=if i∈met then .held (.bool true)else z
theorem rW.nil:rW (.map []) []:=fun i z=>by simp[DataW.atKey]
theorem rW.put{D:DataW Value}{met:List Int}(h:rW D met)(hm:Maps.IsMap D)(i:Int):rW (D.put (.int .i64 i) (.held (.bool true))) (i::met):=by
 intro j z
 by_cases e:j=i
 ·subst e
  rw[Maps.atKey_put_same hm (by trivial)];simp
 ·have hne:(Lit.int .i64 j)≠ .int .i64 i:=by intro e2;injection e2 with _ e2;exact e e2
  rw[Maps.atKey_put_other hne,h j z];simp[e]
attribute [local go_sem] Oper.semAt_some
theorem Gn(f:Nat)(head:Int)(w:World):
  Calls Tryz.prog 233 #[.pointer (some ⟨f,0,none⟩), .int .i64 head] w fun e w'=>e= .returned (.func (.func 285) #[] #[.pointer (some ⟨w.heap.size+1,0,none⟩), .pointer (some ⟨w.heap.size,0,none⟩)])/\
   w'=(w.alloc (.cells #[.pointer (some ⟨f,0,none⟩)] 27)).alloc (.cells #[.int .i64 head] 3):=by
 go_enter Tryz.func233,Tryz.ntmps233
 go_wp2
 go_ret
 exact⟨rfl,rfl⟩
def bodyT(t:TypeId):Bool:=t==47||t==49||t==33||t==64||t==3
structure KpL(n₀:Nat)(X Y:World):Prop where
 below:Below n₀ X Y
 blk:∀ (g:Nat) (t:TypeId) (cs:Array Value),Blk X g t cs->bodyT t=false->Blk Y g t cs
 maps:yU X Y
theorem KpL.dX{n₀:Nat}{X Y:World}(h:KpL n₀ X Y):iI X Y:=⟨fun g t cs hb ht=>h.blk g t cs hb (by
 unfold Fa at ht
 simp only[Bool.or_eq_true,beq_iff_eq]at ht
 rcases ht with((rfl | rfl) | rfl) | rfl<;>decide),h.maps⟩
structure AbL(B:Nat)(X Y:World):Prop where
 below:Below B X Y
 kept:Kept X Y
 oth:∀ (k:Nat) (o:Obj),X.heap[k]? =some o->o.isCells=false->o.isWalk=false->Y.heap[k]? =some o
abbrev jr:=Lnk × Value
def IJ(x:jr):Array Value:= #[.agg #[.int .i64 x.1.1,x.2, .int .i64 x.1.2.2]]
def GL(n₁:Nat)(T:List Lnk)(xs:List jr)(W:World):Prop:=∃pre x,xs=pre++ [x]/\Own W n₁ x.2 x.1.2.1/\x.1.2.1.length<=29/\xs.map (·.1) <+: T
def SL(B f d kk:Nat)(T:List Lnk)(DT:Dk)(xs:List jr)(W:World):Prop:=xs.map (·.1)=T/\FAt W B f d kk DT
def SpL(B f d kk:Nat)(T:List Lnk)(DT:Dk)(xs:List jr)(W:World):Prop:=xs.map (·.1) <+: T/\∃Dj,FAt W B f d kk Dj/\(xs.map (·.1)=T->Dj=DT)
theorem DW{i:Int}(h0:0<=i)(h1:i<4294967296):(Lit.int .i64 i).wf=true:=by simp[Lit.wf,IntKind.min,IntKind.max,IntKind.signed,IntKind.bits];omega
section
variable {w w':World}{B f d k:Nat}{D:Dk}
theorem FAt.dmap(h:FAt w B f d k D):∃m',w.cell? ⟨d,1,none⟩=some (.map (some m'))/\m'<w.heap.size:=by
 obtain⟨s,m,pv,Dm,h2⟩:=h.disk
 exact⟨m,h2.self.cell 1,h2.map.lt⟩
theorem Blk.bP{g m:Nat}{ty:TypeId}{cs:Array Value}{es:Array MapEntry}{c:Nat}(h:Blk w g ty cs)(hm:w.heap[m]? =some (.map es c))(hg:w.grownBy w' (some m)):Blk w' g ty cs:=
 h.grown hg (fun e=>by
  have e:=Option.some.inj e
  subst e
  have:=h.symm.trans hm
  cases this)
theorem FAt.bP(h:FAt w B f d k D){m:Nat}{es:Array MapEntry}{c:Nat}(hm:w.heap[m]? =some (.map es c))(hg:w.grownBy w' (some m))(hne:∀m',w.cell? ⟨d,1,none⟩=some (.map (some m'))->m'<m):FAt w' B f d k D:=by
 obtain⟨s,m',pv,Dm,h2⟩:=h.disk
 have hlt:=hne m' (h2.self.cell 1)
 refine⟨h.le,h.self.bP hm hg,s,m',pv,Dm,h2.le,h2.self.bP hm hg,h2.sure.bP hm hg,h2.map.kept hg (fun e=>by have:=Option.some.inj e;omega),h2.now, ?_⟩
 have hp:=h2.pend
 rcases hp with⟨h3,h4 | ⟨g,cap,cur,hv,hb,hh,r⟩⟩
 ·exact⟨h3, .inl h4⟩
 ·exact⟨h3, .inr ⟨g,cap,cur,hv,hb,Blk.bP hh hm hg,r⟩⟩
theorem KpL.Yi{n₀:Nat}(h:KpL n₀ w w')(hF:FAt w B f d k D):w'.cell? ⟨d,1,none⟩=w.cell? ⟨d,1,none⟩:=by
 obtain⟨s,m,pv,Dm,h2⟩:=hF.disk
 rw[h2.self.cell 1,(h.blk _ _ _ h2.self (by decide)).cell 1]
theorem KpL.ownsMap{n₀ m j:Nat}{Dm:DataW Value}(h:KpL n₀ w w')(ho:w.ownsMap Tryz.prog 3 jO m j Dm):w'.ownsMap Tryz.prog 3 jO m j Dm:=by
 obtain⟨es,clock,hb,r⟩:=ho
 exact⟨es,clock,h.maps _ _ _ hb,r⟩
theorem fO.ownsMap{m j:Nat}{Dm:DataW Value}(h:fO w w')(ho:w.ownsMap Tryz.prog 3 jO m j Dm):w'.ownsMap Tryz.prog 3 jO m j Dm:=by
 obtain⟨es,clock,hb,r⟩:=ho
 exact⟨es,clock,h _ _ hb rfl,r⟩
theorem AbL.trans{X Y Z:World}(h:AbL B X Y)(g:AbL B Y Z):AbL B X Z:=⟨h.below.trans g.below,h.kept.trans g.kept,fun i o hi h1 h2=>g.oth i o (h.oth i o hi h1 h2) h1 h2⟩
theorem AbL.of_below{X Y:World}(h:Below X.heap.size X Y)(hB:B<=X.heap.size):AbL B X Y:=⟨h.mono hB,Kept.below h,fun i o hi h1 _=>fO.below h i o hi h1⟩
theorem AbL.O4{X Y:World}(h:Below B X Y)(h1:Kept X Y)(h2:fO X Y):AbL B X Y:=⟨h,h1,fun i o hi h3 _=>h2 i o hi h3⟩
theorem AbL.bP{X Y:World}{m:Nat}{es:Array MapEntry}{c:Nat}(hm:X.heap[m]? =some (.map es c))(hg:X.grownBy Y (some m))(hB:B<=X.heap.size)(hBm:B<=m):AbL B X Y:=
 ⟨below_of_grown hg hB hBm,fun g t cs hb _ _=>hb.bP hm hg,fun i o hi _ h2=>(hg.block i (Array.getElem?_eq_some_iff.1 hi).1 (fun e=>by
  have e:=Option.some.inj e
  subst e
  rw[hm]at hi
  cases hi
  cases h2)).trans hi⟩
theorem AbL.far{X Y Z:World}{g:Nat}{ty:TypeId}{cs:Array Value}(h:AbL B X Y)(hb:Blk Y g ty cs)(hg:Y.grownBy Z (some g))(hge:X.heap.size<=g)(hB:B<=X.heap.size):AbL B X Z:=
 ⟨h.below.grown hg (Nat.le_trans hB h.below.size) (fun r e=>by cases e;omega),h.kept.far hg hge,fun i o hi h1 h2=>fO.grown hb hg i o (h.oth i o hi h1 h2) h1⟩
theorem rX{m j:Nat}{Dm:DataW Value}(ho:w.ownsMap Tryz.prog 3 jO m j Dm):∃es c,w.heap[m]? =some (.map es c):=by
 obtain⟨es,clock,hb,r⟩:=ho
 exact⟨_,_,hb⟩
theorem DX{m j:Nat}{Dm:DataW Value}{met:List Int}(ho:w.ownsMap Tryz.prog 3 jO m j Dm)(hmet:rW Dm met){id:Int}(hw:(Lit.int .i64 id).wf=true):
  (Instr.lookup 245 (.map (some m)) (.int .i64 id) false).run Tryz.prog w= .ok (.bool (decide (id∈met))) w:=by
 obtain⟨v,ps,hlook,hv⟩:=ho.lookup jg Tryz.underlying245 (Tryz.zeroValue4 w) (pX false) (qN hw)
 obtain⟨b,rfl,hz⟩:=Gm hv
 rw[hmet id]at hz
 have:b=decide (id∈met):=by
  have hz:=(Prod.mk.inj hz).1
  by_cases hm:id∈met
  ·rw[if_pos hm]at hz;injection hz with hz;injection hz with hz;rw[decide_eq_true hm];exact hz.symm
  ·rw[if_neg hm]at hz;injection hz with hz;injection hz with hz;rw[decide_eq_false hm];exact hz.symm
 rw[this]at hlook
 exact hlook
end
theorem Gp(lp B f d kk N n₀ n₁ hb fb M:Nat)(D:Dk)(pg:Int->Option (Nat × Bs))(head:Int)(J Jx:List jr->World->Prop)(Kp:World->World->Prop)(T:List Lnk)(DT:Dk)(W:World)
  (hT0:T=chL D.sure.length D.down pg (D.sure.length+1) [] head) (hD0:DT=chD D.sure.length D.down pg (D.sure.length+1) D [] head) (hM:T.length<=M)
  (hn1:n₁<=W.heap.size) (hFA:FAt W B f d kk D) (hL:Lim D N) (hN:N+20000<1000000000000) (hT:HT W) (hB0:1<B) (hB:B<=W.heap.size) (hn0:1<n₀)
  (hw:(Lit.int .i64 head).wf=true) (hpg:∀id,aS D.sure.length id=false->D.down=false->iH D id (pg id))
  (hhb:W.cell? ⟨hb,0,none⟩=some (.int .i64 head)) (hhl:hb<W.heap.size) (hfb:Blk W fb 27 #[.pointer (some ⟨f,0,none⟩)])
  (hKp:∀X Y,Kp X Y->KpL n₀ X Y) (hJA:∀s X Y,J s X->AbL B X Y->J s Y)
  (hY:∀pre x W1,J pre W1->pre.length<M->GL n₁ T (pre++ [x]) W1->YieldAt Fence.wide 0 Tryz.prog lp (IJ x) W1 fun e W'=>
   (e= .returned (.bool true)/\J (pre++ [x]) W'/\Kp W1 W')\/(e= .returned (.bool false)/\Jx (pre++ [x]) W'/\Kp W1 W')) (h0:J [] W):
  CallsIn Fence.wide 1 Tryz.prog 285 #[.func (.yield lp) #[] #[], .pointer (some ⟨hb,0,none⟩), .pointer (some ⟨fb,0,none⟩)] W fun e W'=>(∃v,e= .returned v)/\
   ((∃xs,SL B f d kk T DT xs W'/\J xs W')\/(∃pre,SpL B f d kk T DT pre W'/\Jx pre W')):=by
 have hn:=hL.n
 have HPG:=Lib.hid hpg
 obtain⟨n,hnn⟩:∃n,n=D.sure.length:=⟨_,rfl⟩
 obtain⟨dn,hdd⟩:∃dn,dn=D.down:=⟨_,rfl⟩
 rw[<-hnn, <-hdd]at hT0 hD0
 rw[<-hnn]at hn
 have HT0:=Lib.hid hT0
 have HD0:=Lib.hid hD0
 have HNN:=Lib.hid hnn
 have HDD:=Lib.hid hdd
 clear hT0 hD0 hpg hnn hdd
 have hmm:= @run_makeMap Tryz.prog
 have F9:=World.ownsMap_made W Tryz.prog 3 jO
 have Yk:AbL B W (W.alloc (.map #[] 0)):=⟨((Below.refl _ W).alloc (Nat.le_refl _) _).mono hB,Kept.below ((Below.refl _ W).alloc (Nat.le_refl _) _),fun k o hk _ _=>((Below.refl _ W).alloc (Nat.le_refl _) _).block k (Array.getElem?_eq_some_iff.1 hk).1 ▸ hk⟩
 have ahf:(W.alloc (.map #[] 0)).cell? ⟨hb,0,none⟩=some (.int .i64 head):=(World.cell?_alloc_lt W _ _ hhl).trans hhb
 refine callsIn_of_wp Tryz.func285 rfl trivial ?_ rfl
 simp only[Tryz.ntmps285,List.size_toArray,List.length_cons,List.length_nil,Nat.reduceAdd,Nat.reduceSub,Array.replicate_succ,Array.replicate_zero,List.push_toArray,List.append_toArray,List.nil_append,List.cons_append]
 gi_wp2
 gi_loopg [5] (n+1) (fun k i wr=>∃ (id:Int) (met:List Int) (pre:List jr) (Dj:Dk) (Dm:DataW Value),i= .int .i64 id/\(Lit.int .i64 id).wf=true/\met.Nodup/\(∀x∈met,2<=x/\x<(n:Int))/\met.length+k=n+1/\J pre wr/\
  Hid (T=pre.map (·.1)++chL n dn pg k met id)/\Hid (DT=chD n dn pg k Dj met id)/\FAt wr B f d kk Dj/\Lim Dj (N+met.length)/\pW D Dj/\HT wr/\wr.ownsMap Tryz.prog 3 jO W.heap.size met.length Dm/\rW Dm met/\
  Blk wr fb 27 #[.pointer (some ⟨f,0,none⟩)]/\W.heap.size<wr.heap.size/\wr.cell? ⟨d,1,none⟩=W.cell? ⟨d,1,none⟩)
 case atStart=>exact⟨head, [], [],D,_,rfl,hw,List.nodup_nil,by simp,by simp,hJA _ _ _ h0 Yk,Lib.hid (by rw[HT0.out];rfl),HD0,hFA.keep ((Below.refl _ W).alloc (Nat.le_refl _) _),hL,pW.refl D,hT.below Yk.below hB0,F9,rW.nil,hfb.alloc _,by simp,World.cell?_alloc_lt W _ _ hFA.dlt⟩
 case round=>
  obtain⟨id,met,pre,Dj,Dm,rfl,hwf,hnd,hbd,hcnt,hJ,hTT,hDD,hF,hLm,hSD,hTr,hmap,hmet,O5,hsz,hdc⟩:=hrel
  obtain⟨m0,hm0,ahg⟩:=hFA.dmap
  have IB:∀X:World,X.cell? ⟨d,1,none⟩=W.cell? ⟨d,1,none⟩->∀m',X.cell? ⟨d,1,none⟩=some (.map (some m'))->m'<W.heap.size:=fun X hX m' hm'=>by
   rw[hX,hm0]at hm'
   injection hm' with hm'
   injection hm' with hm'
   injection hm' with hm'
   omega
  have hml:=QA hnd hbd
  have hBr:B<=wr.heap.size:=by omega
  by_cases hz:id=0
  ·subst hz
   have hxs:pre.map (·.1)=T:=by rw[hTT.out,rV,List.append_nil]
   have hdx:DT=Dj:=by rw[hDD.out,xG]
   subst hdx
   clear hTT hDD
   gi_wp2
   go_end0
   exact⟨⟨_,rfl⟩, .inl ⟨pre,⟨hxs,hF⟩,hJ⟩⟩
  ·obtain⟨k',rfl⟩:∃k',gk=k'+1:=⟨gk-1,by omega⟩
   have hb1:Below wr.heap.size wr (wr.alloc (.cells #[.int .i64 0, .slice none 0 0, .int .i64 3] 331)):=(Below.refl _ wr).alloc (Nat.le_refl _) _
   have Yl:=Blk.new wr 331 #[.int .i64 0, .slice none 0 0, .int .i64 3]
   have hmap1:=hmap.alloc (.cells #[.int .i64 0, .slice none 0 0, .int .i64 3] 331)
   have hlook:=DX hmap1 hmet hwf
   have acT:=O5.alloc (.cells #[.int .i64 0, .slice none 0 0, .int .i64 3] 331)
   have hF1:=hF.keep hb1
   have hT1:=hTr.below (hb1.mono hBr) hB0
   have Ym:=(hb1.cell (p:=⟨d,1,none⟩) hF.dlt).trans hdc
   by_cases hmem:id∈met
   ·obtain⟨w4,ug,qG,hturn⟩:=hmap1.store jg Tryz.underlying245 (show met.length<maxLen by unfold maxLen;omega) (qN hwf) (pX true)
    obtain⟨es,cl,nM⟩:=rX hmap1
    have hab:=(AbL.of_below hb1 hBr).trans (AbL.bP nM hturn.grown (Nat.le_trans hBr hb1.size) hB)
    have nG:=Yl.bP nM hturn.grown
    have hF4:=hF1.bP nM hturn.grown (IB _ Ym)
    have hTe:T=(pre++ [(((0, [],3), .slice none 0 0):jr)]).map (·.1):=by rw[hTT.out,AA hz hmem];simp
    have hDe:DT=Dj:=by rw[hDD.out,AB hz hmem]
    have hYk:=hY pre ((0, [],3), .slice none 0 0) w4 (hJA _ _ _ hJ hab) (by rw[hTe]at hM;simp at hM;omega) ⟨pre,_,rfl,Own.nil_ _ _,Nat.zero_le _,by rw[<-hTe];exact List.prefix_refl _⟩
    obtain⟨fn,tmps,assign,body,hyl,hR⟩:=hYk
    unfold IJ at hyl
    have c0:=nG.cell 0
    have c1:=nG.cell 1
    have c2:=nG.cell 2
    have HTE:=Lib.hid hTe
    have HLK:=Lib.hid nG
    have hq:decide (id∈met)=true:=decide_eq_true hmem
    rw[hq]at hlook
    clear hTe hTT hDD hmem hq nG
    subst hDe
    gi_wp2
    refine hR.mono ?_
    rintro e W3 (⟨rfl,hJ3,hk3⟩ | ⟨rfl,hJx3,hk3⟩)
    ·have hK:=hKp _ _ hk3
     have d2:=(hK.blk _ _ _ HLK.out (by decide)).cell 2
     gi_wp2
     refine bodyPost_ret (results_none rfl _ _ _) rfl ?_
     exact⟨⟨_,rfl⟩, .inl ⟨_,⟨HTE.out.symm,hF4.dX hK.dX⟩,hJ3⟩⟩
    ·gi_wp2
     refine bodyPost_ret (results_none rfl _ _ _) rfl ?_
     exact⟨⟨_,rfl⟩, .inr ⟨_,⟨by rw[<-HTE.out];exact List.prefix_refl _,_,hF4.dX (hKp _ _ hk3).dX,fun _=>rfl⟩,hJx3⟩⟩
   ·have hfo:=BF hF1 (hLm.fine (by omega)) hT1 hB0 (Nat.le_trans hBr hb1.size) id (pg id) (fun h1 h2=>hSD.page (HPG.out id (by rw[<-hSD.sure];exact h1) (by rw[<-hSD.down];exact h2)))
    rw[hSD.sure,hSD.down, <-HNN.out, <-HDD.out]at hfo
    have hyl:=Yh n dn id (pg id)
    have hyn:=fun h=>Qy (n:=n) (down:=dn) (id:=id) (o:=pg id) h
    have hTs:=pV (k:=k') (met:=met) (pg:=pg) hz hmem (y:=fo n dn id (pg id)) rfl
    have hDs:=DV (k:=k') (D:=Dj) (met:=met) (pg:=pg) hz hmem (y:=fo n dn id (pg id)) rfl
    rw[hTs]at hTT
    rw[hDs]at hDD
    generalize fo n dn id (pg id)=y at*
    obtain⟨⟨a,l,er⟩,nx⟩:=y
    have hq:decide (id∈met)=false:=decide_eq_false hmem
    rw[hq]at hlook
    have HYN:=Lib.hid hyn
    clear hTs hDs hq hyn
    have cfb:=O5.cell 0
    have lfb:=O5.lt
    gi_wp2_with fail
    refine⟨trivial,(callsIn_wide.2 hfo).mono ?_⟩
    rintro e w2 ⟨v,rfl,hown2,hF2,hb2,hk2,ho2,acU⟩
    simp only at hown2
    obtain⟨A,c,rfl⟩:=hown2.form
    have hg1:(wr.alloc (.cells #[.int .i64 0, .slice none 0 0, .int .i64 3] 331)).heap.size=wr.heap.size+1:=by simp
    rw[hg1]at hown2
    have hs2:wr.heap.size+1<=w2.heap.size:=by have:=hb2.size;rw[hg1]at this;exact this
    have hdl:=hF.dlt
    have hdW:=hFA.dlt
    have hlk2:=hk2 _ _ _ Yl (by decide) (by decide)
    obtain⟨qV,hg3⟩:=mP (.int .i64 a) (.slice A l.length c) (.int .i64 er) hlk2
    have DY:=(ho2.ownsMap hmap1).kept hg3 (fun e=>by have:=Option.some.inj e;omega)
    obtain⟨w4,ug,qG,hturn⟩:=DY.store jg Tryz.underlying245 (show met.length<maxLen by unfold maxLen;omega) (qN hwf) (pX true)
    obtain⟨es,cl,nM⟩:=rX DY
    have hab:=((AbL.of_below hb1 hBr).trans (AbL.O4 hb2 hk2 ho2)).far hlk2 hg3 (Nat.le_refl _) hBr
    have O6:=hab.trans (AbL.bP nM hturn.grown (Nat.le_trans hBr hab.below.size) hB)
    have nG:=qV.bP nM hturn.grown
    have Yn:=(mQ (j:=1) hg3 (show d<w2.heap.size by omega) (by omega)).trans (acU.trans Ym)
    have hF4:=(hF2.dX (iI.grown hlk2 (by decide) hg3)).bP nM hturn.grown (IB _ Yn)
    have acV:=(mQ (j:=1) hturn.grown (show d<_ from Nat.lt_of_lt_of_le (show d<w2.heap.size by omega) hg3.size) (by omega)).trans Yn
    have hown3:=World.ownsRow.kept hown2 hg3 (.inr (fun e=>by have:=(hown2.lt _ e).1;omega))
    have hown4:=World.ownsRow.kept hown3 hturn.grown (.inr (fun e=>by have:=(hown2.lt _ e).1;omega))
    have acW:=hk2 _ _ _ acT (by decide) (by decide)
    have acX:=(acW.grown hg3 (fun e=>by have:=Option.some.inj e;omega)).bP nM hturn.grown
    have him:=DY.isMap
    have hTl:=congrArg List.length hTT.out
    rw[List.length_append,List.length_map,List.length_cons]at hTl
    have hpx:(pre++ [(((a,l,er), .slice A l.length c):jr)]).map (·.1) <+: T:=⟨_,by rw[hTT.out,List.map_append,List.append_assoc];rfl⟩
    have hYk:=hY pre ((a,l,er), .slice A l.length c) w4 (hJA _ _ _ hJ O6) (by omega) ⟨pre,_,rfl,jw hown4 (by omega),hyl,hpx⟩
    obtain⟨fn,tmps,assign,body,acY,hR⟩:=hYk
    unfold IJ at acY
    have d0:=hlk2.cell 0
    have d1:=hlk2.cell 1
    have d2:=hlk2.cell 2
    have f0:=hlk2.frozen 0
    have f1:=hlk2.frozen 1
    have f2:=hlk2.frozen 2
    have e0:=nG.cell 0
    have e1:=nG.cell 1
    have e2:=nG.cell 2
    have HLK:=Lib.hid nG
    have HPX:=Lib.hid hpx
    have HTL:=Lib.hid hTl
    clear nG hpx hTl qV hg3
    gi_wp2
    refine hR.mono ?_
    rintro e W3 (⟨rfl,hJ3,hk3⟩ | ⟨rfl,hJx3,hk3⟩)
    ·have hK:=hKp _ _ hk3
     have g2:=(hK.blk _ _ _ HLK.out (by decide)).cell 2
     have hF5:=hF4.dX hK.dX
     by_cases her:er=0
     ·have vS:=hTT.out
      have vT:=hDD.out
      rw[if_pos her]at vS vT
      have Yo:=HYN.out her
      subst her
      have HT2:=Lib.hid vS
      have HD2:=Lib.hid vT
      have hyn:2<=id/\id<(n:Int)/\0<=nx/\nx<4294967296:=Yo
      clear Yo
      clear vS vT HYN hTT hDD
      gi_wp2
      gi_roundg k'
      case measure=>omega
      case rel=>exact⟨nx,id::met,pre++ [((a,l,0), .slice A l.length c)],Dj.bG id,_,rfl,DW hyn.2.2.1 hyn.2.2.2,List.nodup_cons.2 ⟨hmem,hnd⟩,fun x hx=>by
       rcases List.mem_cons.1 hx with rfl | hx
       ·exact⟨hyn.1,hyn.2.1⟩
       ·exact hbd x hx,by simp;omega,hJ3,Lib.hid (by rw[HT2.out];simp),HD2,hF5,(hLm.bG id).mono (by simp;omega),hSD.bG id,(hTr.below O6.below hB0).below hK.below hn0,hK.ownsMap qG,hmet.put him id,hK.blk _ _ _ acX (by decide),by have:=O6.below.size;have:=hK.below.size;omega,(hK.Yi hF4).trans acV⟩
     ·have hq3:(er != 0)=true:=by simpa using her
      have vS:=hTT.out
      have vT:=hDD.out
      rw[if_neg her]at vS vT
      have HT2:=Lib.hid vS
      have HD2:=Lib.hid vT
      clear vS vT HYN hTT hDD
      gi_wp2
      refine bodyPost_ret (results_none rfl _ _ _) rfl ?_
      exact⟨⟨_,rfl⟩, .inl ⟨_,⟨by rw[HT2.out];simp,by rw[HD2.out];exact hF5⟩,hJ3⟩⟩
    ·have hK:=hKp _ _ hk3
     have hF5:=hF4.dX hK.dX
     have hend:(pre++ [(((a,l,er), .slice A l.length c):jr)]).map (·.1)=T->Dj.bG id=DT:=fun hh=>by
      rw[hTT.out,List.map_append]at hh
      have hh2:=List.append_cancel_left hh
      have hh3:(if er=0 then chL n dn pg k' (id::met) nx else [])= []:=(List.cons.inj hh2).2.symm
      rw[hDD.out]
      show Dj.bG id=if er=0 then _ else _
      by_cases her:er=0
      ·rw[if_pos her]at hh3 ⊢
       exact(Qz hh3).symm
      ·rw[if_neg her]
     have HE:=Lib.hid hend
     clear hend HYN hTT hDD
     gi_wp2
     refine bodyPost_ret (results_none rfl _ _ _) rfl ?_
     exact⟨⟨_,rfl⟩, .inr ⟨_,⟨HPX.out,_,hF5,HE.out⟩,hJx3⟩⟩
theorem LX(W:World):(sizeOf (Tryz.prog.elem 47)).run Tryz.prog W= .ok 2 W:=by kernel_rfl
theorem QB:Tryz.prog.underlying 47=some (.slice (Tryz.prog.elem 47)):=by kernel_rfl
theorem Ux(A:Option Addr)(n c i:Nat)(x:Int)(hx:x=i)(hi:i<=n)(W:World):(Instr.slice 47 (.slice A n c) (some (.int .i64 x)) none none).run Tryz.prog W= .ok (.slice (if c=i then A else A.map (·.add (i*2))) (n-i) (c-i)) W:=by
 subst hx
 rw[run_slice_l W 47 A n c QB .i64 (i:Int) (by omega) (by omega),LX]
 simp only[Result.andThen_ok,sliced,Int.toNat_natCast]
theorem Uy(A:Option Addr)(n c i:Nat)(x:Int)(hx:x=i)(hi:i<=c)(W:World):(Instr.slice 47 (.slice A n c) none (some (.int .i64 x)) none).run Tryz.prog W= .ok (.slice A i c) W:=by
 subst hx
 rw[run_slice_h W 47 A n c QB .i64 (i:Int) (by omega) (by omega),LX]
 simp only[Result.andThen_ok,sliced,Int.toNat_natCast,Nat.zero_mul,Nat.sub_zero]
 have e:(if c=0 then A else A.map (·.add 0))=A:=by
  split
  ·rfl
  ·cases A<;>rfl
 rw[e]
def LY:Enc Run:=⟨fun x=> [.int .i64 x.1, .int .i64 x.2],2,fun _=>rfl,by decide,fun x u hu=>by simp at hu;rcases hu with rfl | rfl<;>rfl⟩
theorem RS.ls{w:World}{B:Nat}{A:Option Addr}{l:List Run}(h:RS w B A l):LS LY w B A l:=h
theorem RS.cut{w:World}{B:Nat}{A:Option Addr}{l:List Run}(h:RS w B A l){k cap:Nat}(hk:k<=l.length)(hc:l.length<=cap):RS w B (if cap=k then A else A.map (·.add (k*2))) (l.drop k):=h.ls.cut hk hc
theorem RS.mG{w:World}{B:Nat}{A:Option Addr}{l:List Run}(h:RS w B A l)(k:Nat):RS w B A (l.take k):=LS.mG h.ls k
section
variable {w w':World}{row:Option Nat}{T:TypeId}
theorem bn(hg:w.grownBy w' row)(hr:∀r,row=some r->∃cs,Blk w r T cs){g:Nat}{t:TypeId}{cs:Array Value}(hb:Blk w g t cs)(hne:t≠T):Blk w' g t cs:=
 hb.grown hg (fun e=>by
  obtain⟨cs',hc⟩:=hr g e.symm
  exact hb.ne_ hc hne rfl)
theorem jk{α:Type}{E:Enc α}{ty:TypeId}{base:Nat}{v:Value}{l:List α}(hg:w.grownBy w' row)(hr:∀r,row=some r->∃cs,Blk w r T cs)(h:LO E ty w base v l)(hne:ty≠T):LO E ty w' base v l:=
 h.keep hg (fun r e=>by
  obtain⟨cs,hc⟩:=hr r e
  exact⟨_,hc,fun cs' e=>by injection e with _ e;exact hne e.symm⟩)
theorem jf(hg:w.grownBy w' row)(hr:∀r,row=some r->∃cs,Blk w r T cs):fO w w':=by
 intro m o h hc
 refine(hg.block m (Array.getElem?_eq_some_iff.1 h).1 (fun e=> ?_)).trans h
 obtain⟨cs,hcs⟩:=hr m e.symm
 have:=h.symm.trans hcs
 cases this
 cases hc
theorem aam{A:Option Addr}{l:List Run}(h:RS w w.heap.size A l)(o:Obj):RS (w.alloc o) (w.alloc o).heap.size A l:=
 (h.below ((Below.refl _ w).alloc (Nat.le_refl _) o)).more ((Below.refl _ w).alloc (Nat.le_refl _) o).size
end
def upd(g:Nat->Bool)(i:Nat):Nat->Bool:=fun j=>if j=i then true else g j
theorem dN{g:Nat->Bool}{i j:Nat}(h:g j=true):upd g i j=true:=by unfold upd;split<;>simp[h]
structure St(n₀ b4 b5 b6 b7 b8 Bx:Nat)(l lr:List Run)(ids:List Int)(id er:Int)(A:Option Addr)(c:Nat)(vl vi:Value)(w0:World)(g:Nat->Bool)(a:Act)(w:World):Prop where
 hn:n₀<=w0.heap.size
 sz:a.tmps.size=32
 fx:a.eval (.tmp 7)= .pointer (some ⟨b7,0,none⟩)/\a.eval (.tmp 8)= .pointer (some ⟨b8,0,none⟩)/\a.eval (.tmp 9)= .pointer (some ⟨Bx,0,none⟩)
 d3:g 3=true->g 0=true/\g 2=true
 d8:g 8=true->g 3=true/\g 4=true
 d9:g 9=true->g 3=true/\g 8=true
 d10:g 10=true->g 9=true
 t0:g 0=true->a.eval (.tmp 20)=vl
 t1:g 1=true->a.eval (.tmp 21)= .pointer (some ⟨Bx,1,none⟩)
 t2:g 2=true->a.eval (.tmp 22)= .slice A lr.length c
 t3:g 3=true->Own w n₀ (a.eval (.tmp 23)) (l++lr)
 t4:g 4=true->a.eval (.tmp 24)=vi
 t5:g 5=true->a.eval (.tmp 25)= .pointer (some ⟨Bx,0,none⟩)
 t6:g 6=true->a.eval (.tmp 26)= .int .i64 id
 t7:g 7=true->g 8=false->∃q,a.eval (.tmp 27)= .slice (some ⟨q,0,none⟩) 1 1/\Blk w q 3 #[.int .i64 id]
 t8:g 8=true->LO aV 3 w n₀ (a.eval (.tmp 28)) (ids++ [id])
 o3:g 3=false->Own w n₀ vl l/\RS w w.heap.size A lr
 o8:g 8=false->LO aV 3 w n₀ vi ids
 c7:∃x,Blk w b7 47 #[x]/\(g 9=false->x=vl)/\(g 9=true->x=a.eval (.tmp 23))
 c8:∃y,Blk w b8 49 #[y]/\(g 10=false->y=vi)/\(g 10=true->y=a.eval (.tmp 28))
 link:Blk w Bx 331 #[.int .i64 id, .slice A lr.length c, .int .i64 er]
 b4:Blk w b4 47 #[.slice none 0 0]
 b5:Blk w b5 49 #[.slice none 0 0]
 b6:Blk w b6 33 #[.int .i64 0]
 below:Below n₀ w0 w
 blk:∀ (k:Nat) (t:TypeId) (cs:Array Value),Blk w0 k t cs->bodyT t=false->Blk w k t cs
 oth:fO w0 w
section
variable {n₀ b4 b5 b6 b7 b8 Bx:Nat}{l lr:List Run}{ids:List Int}{id er:Int}{A:Option Addr}{c:Nat}{vl vi:Value}{w0:World}{g:Nat->Bool}{a:Act}{w w':World}
theorem St.s0(hI:St n₀ b4 b5 b6 b7 b8 Bx l lr ids id er A c vl vi w0 g a w):St n₀ b4 b5 b6 b7 b8 Bx l lr ids id er A c vl vi w0 (upd g 0) (a.put (some 20) (vl)) w where
 hn:=hI.hn
 sz:=by rw[iJ];exact hI.sz
 fx:=by rw[ay a 20 7 _ (by decide),ay a 20 8 _ (by decide),ay a 20 9 _ (by decide)];exact hI.fx
 d3:=fun h=>⟨dN (hI.d3 h).1,dN (hI.d3 h).2⟩
 d8:=fun h=>⟨dN (hI.d8 h).1,dN (hI.d8 h).2⟩
 d9:=hI.d9
 d10:=hI.d10
 t0:=fun _=>lV _ _ _ (by rw[hI.sz];decide)
 t1:=fun h=>by rw[ay _ _ _ _ (by decide)];exact hI.t1 h
 t2:=fun h=>by rw[ay _ _ _ _ (by decide)];exact hI.t2 h
 t3:=fun h=>by rw[ay _ _ _ _ (by decide)];exact hI.t3 h
 t4:=fun h=>by rw[ay _ _ _ _ (by decide)];exact hI.t4 h
 t5:=fun h=>by rw[ay _ _ _ _ (by decide)];exact hI.t5 h
 t6:=fun h=>by rw[ay _ _ _ _ (by decide)];exact hI.t6 h
 t7:=fun h h8=>by rw[ay _ _ _ _ (by decide)];exact hI.t7 h h8
 t8:=fun h=>by rw[ay _ _ _ _ (by decide)];exact hI.t8 h
 o3:=hI.o3
 o8:=hI.o8
 c7:=by rw[ay _ _ _ _ (by decide)];exact hI.c7
 c8:=by rw[ay _ _ _ _ (by decide)];exact hI.c8
 link:=hI.link
 b4:=hI.b4
 b5:=hI.b5
 b6:=hI.b6
 below:=hI.below
 blk:=hI.blk
 oth:=hI.oth
theorem St.s1(hI:St n₀ b4 b5 b6 b7 b8 Bx l lr ids id er A c vl vi w0 g a w):St n₀ b4 b5 b6 b7 b8 Bx l lr ids id er A c vl vi w0 (upd g 1) (a.put (some 21) (.pointer (some ⟨Bx,1,none⟩))) w where
 hn:=hI.hn
 sz:=by rw[iJ];exact hI.sz
 fx:=by rw[ay a 21 7 _ (by decide),ay a 21 8 _ (by decide),ay a 21 9 _ (by decide)];exact hI.fx
 d3:=fun h=>⟨dN (hI.d3 h).1,dN (hI.d3 h).2⟩
 d8:=fun h=>⟨dN (hI.d8 h).1,dN (hI.d8 h).2⟩
 d9:=hI.d9
 d10:=hI.d10
 t0:=fun h=>by rw[ay _ _ _ _ (by decide)];exact hI.t0 h
 t1:=fun _=>lV _ _ _ (by rw[hI.sz];decide)
 t2:=fun h=>by rw[ay _ _ _ _ (by decide)];exact hI.t2 h
 t3:=fun h=>by rw[ay _ _ _ _ (by decide)];exact hI.t3 h
 t4:=fun h=>by rw[ay _ _ _ _ (by decide)];exact hI.t4 h
 t5:=fun h=>by rw[ay _ _ _ _ (by decide)];exact hI.t5 h
 t6:=fun h=>by rw[ay _ _ _ _ (by decide)];exact hI.t6 h
 t7:=fun h h8=>by rw[ay _ _ _ _ (by decide)];exact hI.t7 h h8
 t8:=fun h=>by rw[ay _ _ _ _ (by decide)];exact hI.t8 h
 o3:=hI.o3
 o8:=hI.o8
 c7:=by rw[ay _ _ _ _ (by decide)];exact hI.c7
 c8:=by rw[ay _ _ _ _ (by decide)];exact hI.c8
 link:=hI.link
 b4:=hI.b4
 b5:=hI.b5
 b6:=hI.b6
 below:=hI.below
 blk:=hI.blk
 oth:=hI.oth
theorem St.s2(hI:St n₀ b4 b5 b6 b7 b8 Bx l lr ids id er A c vl vi w0 g a w):St n₀ b4 b5 b6 b7 b8 Bx l lr ids id er A c vl vi w0 (upd g 2) (a.put (some 22) (.slice A lr.length c)) w where
 hn:=hI.hn
 sz:=by rw[iJ];exact hI.sz
 fx:=by rw[ay a 22 7 _ (by decide),ay a 22 8 _ (by decide),ay a 22 9 _ (by decide)];exact hI.fx
 d3:=fun h=>⟨dN (hI.d3 h).1,dN (hI.d3 h).2⟩
 d8:=fun h=>⟨dN (hI.d8 h).1,dN (hI.d8 h).2⟩
 d9:=hI.d9
 d10:=hI.d10
 t0:=fun h=>by rw[ay _ _ _ _ (by decide)];exact hI.t0 h
 t1:=fun h=>by rw[ay _ _ _ _ (by decide)];exact hI.t1 h
 t2:=fun _=>lV _ _ _ (by rw[hI.sz];decide)
 t3:=fun h=>by rw[ay _ _ _ _ (by decide)];exact hI.t3 h
 t4:=fun h=>by rw[ay _ _ _ _ (by decide)];exact hI.t4 h
 t5:=fun h=>by rw[ay _ _ _ _ (by decide)];exact hI.t5 h
 t6:=fun h=>by rw[ay _ _ _ _ (by decide)];exact hI.t6 h
 t7:=fun h h8=>by rw[ay _ _ _ _ (by decide)];exact hI.t7 h h8
 t8:=fun h=>by rw[ay _ _ _ _ (by decide)];exact hI.t8 h
 o3:=hI.o3
 o8:=hI.o8
 c7:=by rw[ay _ _ _ _ (by decide)];exact hI.c7
 c8:=by rw[ay _ _ _ _ (by decide)];exact hI.c8
 link:=hI.link
 b4:=hI.b4
 b5:=hI.b5
 b6:=hI.b6
 below:=hI.below
 blk:=hI.blk
 oth:=hI.oth
theorem St.s4(hI:St n₀ b4 b5 b6 b7 b8 Bx l lr ids id er A c vl vi w0 g a w):St n₀ b4 b5 b6 b7 b8 Bx l lr ids id er A c vl vi w0 (upd g 4) (a.put (some 24) (vi)) w where
 hn:=hI.hn
 sz:=by rw[iJ];exact hI.sz
 fx:=by rw[ay a 24 7 _ (by decide),ay a 24 8 _ (by decide),ay a 24 9 _ (by decide)];exact hI.fx
 d3:=fun h=>⟨dN (hI.d3 h).1,dN (hI.d3 h).2⟩
 d8:=fun h=>⟨dN (hI.d8 h).1,dN (hI.d8 h).2⟩
 d9:=hI.d9
 d10:=hI.d10
 t0:=fun h=>by rw[ay _ _ _ _ (by decide)];exact hI.t0 h
 t1:=fun h=>by rw[ay _ _ _ _ (by decide)];exact hI.t1 h
 t2:=fun h=>by rw[ay _ _ _ _ (by decide)];exact hI.t2 h
 t3:=fun h=>by rw[ay _ _ _ _ (by decide)];exact hI.t3 h
 t4:=fun _=>lV _ _ _ (by rw[hI.sz];decide)
 t5:=fun h=>by rw[ay _ _ _ _ (by decide)];exact hI.t5 h
 t6:=fun h=>by rw[ay _ _ _ _ (by decide)];exact hI.t6 h
 t7:=fun h h8=>by rw[ay _ _ _ _ (by decide)];exact hI.t7 h h8
 t8:=fun h=>by rw[ay _ _ _ _ (by decide)];exact hI.t8 h
 o3:=hI.o3
 o8:=hI.o8
 c7:=by rw[ay _ _ _ _ (by decide)];exact hI.c7
 c8:=by rw[ay _ _ _ _ (by decide)];exact hI.c8
 link:=hI.link
 b4:=hI.b4
 b5:=hI.b5
 b6:=hI.b6
 below:=hI.below
 blk:=hI.blk
 oth:=hI.oth
theorem St.s5(hI:St n₀ b4 b5 b6 b7 b8 Bx l lr ids id er A c vl vi w0 g a w):St n₀ b4 b5 b6 b7 b8 Bx l lr ids id er A c vl vi w0 (upd g 5) (a.put (some 25) (.pointer (some ⟨Bx,0,none⟩))) w where
 hn:=hI.hn
 sz:=by rw[iJ];exact hI.sz
 fx:=by rw[ay a 25 7 _ (by decide),ay a 25 8 _ (by decide),ay a 25 9 _ (by decide)];exact hI.fx
 d3:=fun h=>⟨dN (hI.d3 h).1,dN (hI.d3 h).2⟩
 d8:=fun h=>⟨dN (hI.d8 h).1,dN (hI.d8 h).2⟩
 d9:=hI.d9
 d10:=hI.d10
 t0:=fun h=>by rw[ay _ _ _ _ (by decide)];exact hI.t0 h
 t1:=fun h=>by rw[ay _ _ _ _ (by decide)];exact hI.t1 h
 t2:=fun h=>by rw[ay _ _ _ _ (by decide)];exact hI.t2 h
 t3:=fun h=>by rw[ay _ _ _ _ (by decide)];exact hI.t3 h
 t4:=fun h=>by rw[ay _ _ _ _ (by decide)];exact hI.t4 h
 t5:=fun _=>lV _ _ _ (by rw[hI.sz];decide)
 t6:=fun h=>by rw[ay _ _ _ _ (by decide)];exact hI.t6 h
 t7:=fun h h8=>by rw[ay _ _ _ _ (by decide)];exact hI.t7 h h8
 t8:=fun h=>by rw[ay _ _ _ _ (by decide)];exact hI.t8 h
 o3:=hI.o3
 o8:=hI.o8
 c7:=by rw[ay _ _ _ _ (by decide)];exact hI.c7
 c8:=by rw[ay _ _ _ _ (by decide)];exact hI.c8
 link:=hI.link
 b4:=hI.b4
 b5:=hI.b5
 b6:=hI.b6
 below:=hI.below
 blk:=hI.blk
 oth:=hI.oth
theorem St.s6(hI:St n₀ b4 b5 b6 b7 b8 Bx l lr ids id er A c vl vi w0 g a w):St n₀ b4 b5 b6 b7 b8 Bx l lr ids id er A c vl vi w0 (upd g 6) (a.put (some 26) (.int .i64 id)) w where
 hn:=hI.hn
 sz:=by rw[iJ];exact hI.sz
 fx:=by rw[ay a 26 7 _ (by decide),ay a 26 8 _ (by decide),ay a 26 9 _ (by decide)];exact hI.fx
 d3:=fun h=>⟨dN (hI.d3 h).1,dN (hI.d3 h).2⟩
 d8:=fun h=>⟨dN (hI.d8 h).1,dN (hI.d8 h).2⟩
 d9:=hI.d9
 d10:=hI.d10
 t0:=fun h=>by rw[ay _ _ _ _ (by decide)];exact hI.t0 h
 t1:=fun h=>by rw[ay _ _ _ _ (by decide)];exact hI.t1 h
 t2:=fun h=>by rw[ay _ _ _ _ (by decide)];exact hI.t2 h
 t3:=fun h=>by rw[ay _ _ _ _ (by decide)];exact hI.t3 h
 t4:=fun h=>by rw[ay _ _ _ _ (by decide)];exact hI.t4 h
 t5:=fun h=>by rw[ay _ _ _ _ (by decide)];exact hI.t5 h
 t6:=fun _=>lV _ _ _ (by rw[hI.sz];decide)
 t7:=fun h h8=>by rw[ay _ _ _ _ (by decide)];exact hI.t7 h h8
 t8:=fun h=>by rw[ay _ _ _ _ (by decide)];exact hI.t8 h
 o3:=hI.o3
 o8:=hI.o8
 c7:=by rw[ay _ _ _ _ (by decide)];exact hI.c7
 c8:=by rw[ay _ _ _ _ (by decide)];exact hI.c8
 link:=hI.link
 b4:=hI.b4
 b5:=hI.b5
 b6:=hI.b6
 below:=hI.below
 blk:=hI.blk
 oth:=hI.oth
theorem St.s7(hI:St n₀ b4 b5 b6 b7 b8 Bx l lr ids id er A c vl vi w0 g a w):St n₀ b4 b5 b6 b7 b8 Bx l lr ids id er A c vl vi w0 (upd g 7) (a.put (some 27) (.slice (some ⟨w.heap.size,0,none⟩) 1 1)) (w.alloc (.cells #[.int .i64 id] 3)) where
 hn:=hI.hn
 sz:=by rw[iJ];exact hI.sz
 fx:=by rw[ay a 27 7 _ (by decide),ay a 27 8 _ (by decide),ay a 27 9 _ (by decide)];exact hI.fx
 d3:=fun h=>⟨dN (hI.d3 h).1,dN (hI.d3 h).2⟩
 d8:=fun h=>⟨dN (hI.d8 h).1,dN (hI.d8 h).2⟩
 d9:=hI.d9
 d10:=hI.d10
 t0:=fun h=>by rw[ay _ _ _ _ (by decide)];exact hI.t0 h
 t1:=fun h=>by rw[ay _ _ _ _ (by decide)];exact hI.t1 h
 t2:=fun h=>by rw[ay _ _ _ _ (by decide)];exact hI.t2 h
 t3:=fun h=>by rw[ay _ _ _ _ (by decide)];exact(show LO LY 64 _ _ _ _ from hI.t3 h).alloc _
 t4:=fun h=>by rw[ay _ _ _ _ (by decide)];exact hI.t4 h
 t5:=fun h=>by rw[ay _ _ _ _ (by decide)];exact hI.t5 h
 t6:=fun h=>by rw[ay _ _ _ _ (by decide)];exact hI.t6 h
 t7:=fun _ _=>⟨w.heap.size,lV _ _ _ (by rw[hI.sz];decide),Blk.new w _ _⟩
 t8:=fun h=>by rw[ay _ _ _ _ (by decide)];exact(hI.t8 h).alloc _
 o3:=fun h=>⟨(show LO LY 64 _ _ _ _ from(hI.o3 h).1).alloc _,aam (hI.o3 h).2 _⟩
 o8:=fun h=>(hI.o8 h).alloc _
 c7:=by rw[ay _ _ _ _ (by decide)];obtain⟨x,h1,h2⟩:=hI.c7;exact⟨x,h1.alloc _,h2⟩
 c8:=by rw[ay _ _ _ _ (by decide)];obtain⟨x,h1,h2⟩:=hI.c8;exact⟨x,h1.alloc _,h2⟩
 link:=hI.link.alloc _
 b4:=hI.b4.alloc _
 b5:=hI.b5.alloc _
 b6:=hI.b6.alloc _
 below:=hI.below.alloc (Nat.le_trans hI.hn hI.below.size) _
 blk:=fun k t cs hb ht=>(hI.blk k t cs hb ht).alloc _
 oth:=hI.oth.trans (fO.below ((Below.refl _ w).alloc (Nat.le_refl _) _))
theorem rY{base:Nat}{v:Value}{l:List Run}{w:World}(h:Own w base v l):LO LY 64 w base v l:=h
theorem rZ{base:Nat}{v:Value}{l:List Run}{w:World}(h:LO LY 64 w base v l):Own w base v l:=h
theorem nH{t T:TypeId}(h:bodyT t=false)(hT:bodyT T=true):t≠T:=by
 rintro rfl
 rw[h]at hT;cases hT
theorem Gq{base:Nat}{v:Value}{n size e:Nat}{xs:List Value}{w w':World}(h:w.ownsRow base e size v n xs)(hg:w.grownBy w' v.ownBlock)(hb:base<=w.heap.size):Below base w w':=
 (Below.refl _ _).grown hg hb fun k hk=>(h.lt k hk).1
theorem St.s3(hI:St n₀ b4 b5 b6 b7 b8 Bx l lr ids id er A c vl vi w0 g a w)(h3:g 3=false)(h8:g 8=false)(h0:g 0=true)(h2:g 2=true){v':Value}(hown:Own w' n₀ v' (l++lr))(hg:w.grownBy w' vl.ownBlock):St n₀ b4 b5 b6 b7 b8 Bx l lr ids id er A c vl vi w0 (upd g 3) (a.put (some 23) v') w':=by
 have hr:∀r,vl.ownBlock=some r->∃cs,Blk w r 64 cs:=fun r e=>fG (hI.o3 h3).1 e
 have hbe:=Gq (hI.o3 h3).1 hg (Nat.le_trans hI.hn hI.below.size)
 have h9:g 9=false:=by
  cases h:g 9 with
  |false=>rfl
  |true=>have:=(hI.d9 h).2;rw[h8]at this;cases this
 have h10:g 10=false:=by
  cases h:g 10 with
  |false=>rfl
  |true=>have:=hI.d10 h;rw[h9]at this;cases this
 exact {
  hn:=hI.hn
  sz:=by rw[iJ];exact hI.sz
  fx:=by rw[ay a 23 7 _ (by decide),ay a 23 8 _ (by decide),ay a 23 9 _ (by decide)];exact hI.fx
  d3:=fun _=>⟨h0,h2⟩
  d8:=fun h=>by have h:g 8=true:=h;rw[h8]at h;cases h
  d9:=fun h=>by have h:g 9=true:=h;rw[h9]at h;cases h
  d10:=fun h=>by have h:g 10=true:=h;rw[h10]at h;cases h
  t0:=fun h=>by rw[ay _ _ _ _ (by decide)];exact hI.t0 h
  t1:=fun h=>by rw[ay _ _ _ _ (by decide)];exact hI.t1 h
  t2:=fun h=>by rw[ay _ _ _ _ (by decide)];exact hI.t2 h
  t3:=fun _=>by rw[lV _ _ _ (by rw[hI.sz];decide)];exact hown
  t4:=fun h=>by rw[ay _ _ _ _ (by decide)];exact hI.t4 h
  t5:=fun h=>by rw[ay _ _ _ _ (by decide)];exact hI.t5 h
  t6:=fun h=>by rw[ay _ _ _ _ (by decide)];exact hI.t6 h
  t7:=fun h h8=>by rw[ay _ _ _ _ (by decide)];obtain⟨q,e1,e2⟩:=hI.t7 h h8;exact⟨q,e1,bn hg hr e2 (by decide)⟩
  t8:=fun h=>by have h:g 8=true:=h;rw[h8]at h;cases h
  o3:=fun h=>by cases h
  o8:=fun h=>jk hg hr (hI.o8 h) (by decide)
  c7:=by obtain⟨x,e1,e2,e3⟩:=hI.c7;exact⟨x,bn hg hr e1 (by decide),e2,fun h=>by have h:g 9=true:=h;rw[h9]at h;cases h⟩
  c8:=by rw[ay _ _ _ _ (by decide)];obtain⟨x,e1,e2⟩:=hI.c8;exact⟨x,bn hg hr e1 (by decide),e2⟩
  link:=bn hg hr hI.link (by decide)
  b4:=bn hg hr hI.b4 (by decide)
  b5:=bn hg hr hI.b5 (by decide)
  b6:=bn hg hr hI.b6 (by decide)
  below:=hI.below.trans hbe
  blk:=fun k t cs hb ht=>bn hg hr (hI.blk k t cs hb ht) (nH ht (by decide))
  oth:=hI.oth.trans (jf hg hr) }
theorem St.s8(hI:St n₀ b4 b5 b6 b7 b8 Bx l lr ids id er A c vl vi w0 g a w)(h3:g 3=true)(h8:g 8=false)(h4:g 4=true){v':Value}(hown:LO aV 3 w' n₀ v' (ids++ [id]))(hg:w.grownBy w' vi.ownBlock):St n₀ b4 b5 b6 b7 b8 Bx l lr ids id er A c vl vi w0 (upd g 8) (a.put (some 28) v') w':=by
 have hr:∀r,vi.ownBlock=some r->∃cs,Blk w r 3 cs:=fun r e=>fG (hI.o8 h8) e
 have hbe:=Gq (hI.o8 h8) hg (Nat.le_trans hI.hn hI.below.size)
 have h9:g 9=false:=by
  cases h:g 9 with
  |false=>rfl
  |true=>have:=(hI.d9 h).2;rw[h8]at this;cases this
 have h10:g 10=false:=by
  cases h:g 10 with
  |false=>rfl
  |true=>have:=hI.d10 h;rw[h9]at this;cases this
 exact {
  hn:=hI.hn
  sz:=by rw[iJ];exact hI.sz
  fx:=by rw[ay a 28 7 _ (by decide),ay a 28 8 _ (by decide),ay a 28 9 _ (by decide)];exact hI.fx
  d3:=hI.d3
  d8:=fun _=>⟨h3,h4⟩
  d9:=fun h=>by have h:g 9=true:=h;rw[h9]at h;cases h
  d10:=fun h=>by have h:g 10=true:=h;rw[h10]at h;cases h
  t0:=fun h=>by rw[ay _ _ _ _ (by decide)];exact hI.t0 h
  t1:=fun h=>by rw[ay _ _ _ _ (by decide)];exact hI.t1 h
  t2:=fun h=>by rw[ay _ _ _ _ (by decide)];exact hI.t2 h
  t3:=fun h=>by rw[ay _ _ _ _ (by decide)];exact rZ (jk hg hr (rY (hI.t3 h)) (by decide))
  t4:=fun h=>by rw[ay _ _ _ _ (by decide)];exact hI.t4 h
  t5:=fun h=>by rw[ay _ _ _ _ (by decide)];exact hI.t5 h
  t6:=fun h=>by rw[ay _ _ _ _ (by decide)];exact hI.t6 h
  t7:=fun _ h=>by cases h
  t8:=fun _=>by rw[lV _ _ _ (by rw[hI.sz];decide)];exact hown
  o3:=fun h=>by have h:g 3=false:=h;rw[h3]at h;cases h
  o8:=fun h=>by cases h
  c7:=by rw[ay _ _ _ _ (by decide)];obtain⟨x,e1,e2⟩:=hI.c7;exact⟨x,bn hg hr e1 (by decide),e2⟩
  c8:=by obtain⟨x,e1,e2,e3⟩:=hI.c8;exact⟨x,bn hg hr e1 (by decide),e2,fun h=>by have h:g 10=true:=h;rw[h10]at h;cases h⟩
  link:=bn hg hr hI.link (by decide)
  b4:=bn hg hr hI.b4 (by decide)
  b5:=bn hg hr hI.b5 (by decide)
  b6:=bn hg hr hI.b6 (by decide)
  below:=hI.below.trans hbe
  blk:=fun k t cs hb ht=>bn hg hr (hI.blk k t cs hb ht) (nH ht (by decide))
  oth:=hI.oth.trans (jf hg hr) }
theorem St.s9(hI:St n₀ b4 b5 b6 b7 b8 Bx l lr ids id er A c vl vi w0 g a w)(h3:g 3=true)(h8:g 8=true)(h10:g 10=false)(hne:b7≠b4)(hb7:n₀<=b7):St n₀ b4 b5 b6 b7 b8 Bx l lr ids id er A c vl vi w0 (upd g 9) (a.put none undef) (w.setCell ⟨b7,0,none⟩ (a.eval (.tmp 23))):=by
 obtain⟨x7,hx7,ah9,aia⟩:=hI.c7
 have hg:=iw w b7 0 (a.eval (.tmp 23))
 have hr:∀r,some b7=some r->∃cs,Blk w r 47 cs:=fun r e=>by cases e;exact⟨_,hx7⟩
 exact {
  hn:=hI.hn
  sz:=by rw[iJ];exact hI.sz
  fx:=hI.fx
  d3:=hI.d3
  d8:=hI.d8
  d9:=fun _=>⟨h3,h8⟩
  d10:=fun h=>by have h:g 10=true:=h;rw[h10]at h;cases h
  t0:=hI.t0
  t1:=hI.t1
  t2:=hI.t2
  t3:=fun h=>rZ (jk hg hr (rY (hI.t3 h)) (by decide))
  t4:=hI.t4
  t5:=hI.t5
  t6:=hI.t6
  t7:=fun _ h=>by have h:g 8=false:=h;rw[h8]at h;cases h
  t8:=fun h=>jk hg hr (hI.t8 h) (by decide)
  o3:=fun h=>by have h:g 3=false:=h;rw[h3]at h;cases h
  o8:=fun h=>by have h:g 8=false:=h;rw[h8]at h;cases h
  c7:=⟨a.eval (.tmp 23),by have:=hx7.aW 0 (a.eval (.tmp 23));simpa using this,fun h=>(by cases h),fun _=>rfl⟩
  c8:=by obtain⟨x,e1,e2⟩:=hI.c8;exact⟨x,bn hg hr e1 (by decide),e2⟩
  link:=bn hg hr hI.link (by decide)
  b4:=hI.b4.far (p:=⟨b7,0,none⟩) (Ne.symm hne) _
  b5:=bn hg hr hI.b5 (by decide)
  b6:=bn hg hr hI.b6 (by decide)
  below:=hI.below.setCell (p:=⟨b7,0,none⟩) hb7 _
  blk:=fun k t cs hb ht=>bn hg hr (hI.blk k t cs hb ht) (nH ht (by decide))
  oth:=hI.oth.trans (jf hg hr) }
theorem St.s10(hI:St n₀ b4 b5 b6 b7 b8 Bx l lr ids id er A c vl vi w0 g a w)(h8:g 8=true)(h9:g 9=true)(hne:b8≠b5)(hb8:n₀<=b8):St n₀ b4 b5 b6 b7 b8 Bx l lr ids id er A c vl vi w0 (upd g 10) (a.put none undef) (w.setCell ⟨b8,0,none⟩ (a.eval (.tmp 28))):=by
 obtain⟨x8,hx8,aib,aic⟩:=hI.c8
 have h3:=(hI.d9 h9).1
 have hg:=iw w b8 0 (a.eval (.tmp 28))
 have hr:∀r,some b8=some r->∃cs,Blk w r 49 cs:=fun r e=>by cases e;exact⟨_,hx8⟩
 exact {
  hn:=hI.hn
  sz:=by rw[iJ];exact hI.sz
  fx:=hI.fx
  d3:=hI.d3
  d8:=hI.d8
  d9:=hI.d9
  d10:=fun _=>h9
  t0:=hI.t0
  t1:=hI.t1
  t2:=hI.t2
  t3:=fun h=>rZ (jk hg hr (rY (hI.t3 h)) (by decide))
  t4:=hI.t4
  t5:=hI.t5
  t6:=hI.t6
  t7:=fun _ h=>by have h:g 8=false:=h;rw[h8]at h;cases h
  t8:=fun h=>jk hg hr (hI.t8 h) (by decide)
  o3:=fun h=>by have h:g 3=false:=h;rw[h3]at h;cases h
  o8:=fun h=>by have h:g 8=false:=h;rw[h8]at h;cases h
  c7:=by obtain⟨x,e1,e2⟩:=hI.c7;exact⟨x,bn hg hr e1 (by decide),e2⟩
  c8:=⟨a.eval (.tmp 28),by have:=hx8.aW 0 (a.eval (.tmp 28));simpa using this,fun h=>(by cases h),fun _=>rfl⟩
  link:=bn hg hr hI.link (by decide)
  b4:=bn hg hr hI.b4 (by decide)
  b5:=hI.b5.far (p:=⟨b8,0,none⟩) (Ne.symm hne) _
  b6:=bn hg hr hI.b6 (by decide)
  below:=hI.below.setCell (p:=⟨b8,0,none⟩) hb8 _
  blk:=fun k t cs hb ht=>bn hg hr (hI.blk k t cs hb ht) (nH ht (by decide))
  oth:=hI.oth.trans (jf hg hr) }
end
section
variable {a:Act}{o:Oper}{x y:Operand}{w:World}{ad:Addr}{v:Value}
theorem QC(ho:o.op= .load 47 x)(hx:a.eval x= .pointer (some ad))(hc:w.cell? ad=some v):(execOp a.eval o).run Tryz.prog w= .ok (.value v) w:=by
 unfold execOp
 simp only[ho,hx]
 simp[go_sem,hc]
theorem aan(ho:o.op= .load 49 x)(hx:a.eval x= .pointer (some ad))(hc:w.cell? ad=some v):(execOp a.eval o).run Tryz.prog w= .ok (.value v) w:=by
 unfold execOp
 simp only[ho,hx]
 simp[go_sem,hc]
theorem acZ(ho:o.op= .load 3 x)(hx:a.eval x= .pointer (some ad))(hc:w.cell? ad=some v):(execOp a.eval o).run Tryz.prog w= .ok (.value v) w:=by
 unfold execOp
 simp only[ho,hx]
 simp[go_sem,hc]
theorem Yp{b:Nat}(ho:o.op= .fieldAddr 331 x 1)(hx:a.eval x= .pointer (some ⟨b,0,none⟩)):(execOp a.eval o).run Tryz.prog w= .ok (.value (.pointer (some ⟨b,1,none⟩))) w:=by
 unfold execOp
 simp only[ho,hx]
 simp[go_sem]
theorem Yq{b:Nat}(ho:o.op= .fieldAddr 331 x 0)(hx:a.eval x= .pointer (some ⟨b,0,none⟩)):(execOp a.eval o).run Tryz.prog w= .ok (.value (.pointer (some ⟨b,0,none⟩))) w:=by
 unfold execOp
 simp only[ho,hx]
 simp[go_sem]
theorem ac0{z:Int}(ho:o.op= .buildSlice 49 1 #[(0,x)])(hx:a.eval x= .int .i64 z):(execOp a.eval o).run Tryz.prog w= .ok (.value (.slice (some ⟨w.heap.size,0,none⟩) 1 1)) (w.alloc (.cells #[.int .i64 z] 3)):=by
 unfold execOp
 simp only[ho,List.map_toArray,List.map_cons,List.map_nil,hx]
 simp[go_sem]
theorem aao{A:Option Addr}{n c:Nat}{u:Value}(ho:o.op= .store 47 x y)(hx:a.eval x= .pointer (some ad))(hy:a.eval y= .slice A n c)(hc:w.cell? ad=some u)(hf:w.frozen? ad=false):(execOp a.eval o).run Tryz.prog w= .ok .skip (w.setCell ad (.slice A n c)):=by
 unfold execOp
 simp only[ho,hx,hy]
 simp[go_sem,hc,hf]
theorem aap{A:Option Addr}{n c:Nat}{u:Value}(ho:o.op= .store 49 x y)(hx:a.eval x= .pointer (some ad))(hy:a.eval y= .slice A n c)(hc:w.cell? ad=some u)(hf:w.frozen? ad=false):(execOp a.eval o).run Tryz.prog w= .ok .skip (w.setCell ad (.slice A n c)):=by
 unfold execOp
 simp only[ho,hx,hy]
 simp[go_sem,hc,hf]
theorem Yr{t:TypeId}{u u':Value}{w':World}(ho:o.op= .call { callee:= .builtin .append,args:= #[x,y],argTypes:= #[t,t] })(hx:a.eval x=u)(hy:a.eval y=v)(hr:(Builtin.append_ #[t,t] o.type #[u,v]).run Tryz.prog w= .ok u' w'):(execOp a.eval o).run Tryz.prog w= .ok (.value u') w':=by
 unfold execOp
 simp only[ho,resolve,invoke,builtin,Sem.run_bind,Sem.run_pure,Result.andThen_ok,List.map_toArray,List.map_cons,List.map_nil,hx,hy,hr]
end
attribute [local go_sem] Oper.semAt_some
def zH(T:List Lnk):List Run × List Int × Int:=
 match T.find? (fun y=>decide (y.2.2≠0))with
 |some y=>([], [],y.2.2)
 |none=>(Rp.norm (T.flatMap (fun y=>y.2.1)),T.map (fun y=>y.1),0)
def afa(B f d kk:Nat)(R:List Run × List Int × Int)(DT:Dk)(w:World)(e:Ending)(w':World):Prop:=
 ∃v u,e= .returned (.tuple #[v,u, .int .i64 R.2.2])/\Own w' w.heap.size v R.1/\LO aV 3 w' w.heap.size u R.2.1/\FAt w' B f d kk DT/\Below B w w'/\Kept w w'
theorem Yt{n:Nat}{down:Bool}{pg:Int->Option (Nat × Bs)}(k:Nat)(met:List Int)(id:Int){u rest:List Lnk}{y:Lnk}(h:chL n down pg k met id=u++y::rest)(hy:y.2.2≠0):rest= []:=by
 induction k generalizing met id u with
 |zero=>simp[chL]at h
 |succ k ih=>
  by_cases h0:id=0
  ·subst h0;rw[rV]at h;simp at h
  ·by_cases hm:id∈met
   ·rw[AA h0 hm]at h
    cases u with
    |nil=>exact(List.cons.inj h).2.symm
    |cons a u=>have:=(List.cons.inj h).2;simp at this
   ·rw[pV h0 hm rfl]at h
    cases u with
    |nil=>
     obtain⟨h1,h2⟩:=List.cons.inj h
     rw[<-h1]at hy
     rw[if_neg hy]at h2
     exact h2.symm
    |cons a u=>
     obtain⟨h1,h2⟩:=List.cons.inj h
     split at h2
     ·exact ih _ _ h2
     ·simp at h2
theorem aaq{n:Nat}{down:Bool}{pg:Int->Option (Nat × Bs)}(k:Nat)(met:List Int)(id:Int):(chL n down pg k met id).length<=k:=by
 induction k generalizing met id with
 |zero=>simp[chL]
 |succ k ih=>
  by_cases h0:id=0
  ·subst h0;rw[rV];simp
  ·by_cases hm:id∈met
   ·rw[AA h0 hm];simp
   ·rw[pV h0 hm rfl,List.length_cons]
    split
    ·have:=ih (id::met) (fo n down id (pg id)).2;omega
    ·simp
def AxR(n₀ f:Nat)(head:Int)(T:List Lnk)(xs:List jr)(a':Act)(W:World):Prop:=∃ (pre:List jr) (id:Int) (lr:List Run) (er:Int) (A:Option Addr) (c Bx:Nat),xs=pre++ [((id,lr,er), .slice A lr.length c)]/\n₀<=Bx/\
 Blk W Bx 331 #[.int .i64 id, .slice A lr.length c, .int .i64 er]/\Own W (n₀+1+1+1+1+1+1+1) (.slice A lr.length c) lr/\lr.length<=29/\xs.map (·.1) <+: T/\
 a'= { tmps:= #[.pointer (some ⟨f,0,none⟩), .int .i64 head,undef,undef, .pointer (some ⟨n₀,0,none⟩), .pointer (some ⟨n₀+1,0,none⟩), .pointer (some ⟨n₀+1+1,0,none⟩), .pointer (some ⟨n₀+1+1+1,0,none⟩), .pointer (some ⟨n₀+1+1+1+1,0,none⟩), .pointer (some ⟨Bx,0,none⟩), .pointer (some ⟨f,0,none⟩), .pointer (some ⟨f,0,none⟩), .int .i64 head, .func (.func 285) #[] #[.pointer (some ⟨n₀+1+1+1+1+1+1,0,none⟩), .pointer (some ⟨n₀+1+1+1+1+1,0,none⟩)], .agg #[.int .i64 id, .slice A lr.length c, .int .i64 er],undef,undef,undef,undef,undef,undef,undef,undef,undef,undef,undef,undef,undef,undef,undef,undef,undef],defers:= [] }
theorem aar{n₀:Nat}{w:World}(hn:n₀<=w.heap.size)(W:World)(l:Nat)(o o':Obj)(hl:w.heap.size<=l)(h:W.heap[l]? =some o)(hc:o.isCells=false)(hw:o.isWalk=false):KpL n₀ W (W.putObj l o'):=
 ⟨belowK_b hn W l o o' hl h hc hw,fun g t cs hb _=>by
  have hne:l≠g:=fun e=>by subst e;unfold Blk at hb;rw[h]at hb;injection hb with e;subst e;cases hc
  unfold Blk at*
  simp[World.putObj,hne,hb],fun m es c hm=>by
  have hne:l≠m:=fun e=>by subst e;rw[h]at hm;injection hm with e;subst e;cases hw
  simp[World.putObj,hne,hm]⟩
theorem afb{n₀:Nat}{A B C:World}(h:KpL n₀ A B)(k:KpL n₀ B C):KpL n₀ A C:=⟨h.below.trans k.below,fun g t cs hb ht=>k.blk g t cs (h.blk g t cs hb ht) ht,h.maps.trans k.maps⟩
theorem tN(W:World)(l:Nat)(o o':Obj)(h:W.heap[l]? =some o)(hc:o.isCells=false)(hw:o.isWalk=false):iI W (W.putObj l o'):=
 ⟨fun g t cs hb _=>by
  have hne:l≠g:=fun e=>by subst e;unfold Blk at hb;rw[h]at hb;injection hb with e;subst e;cases hc
  unfold Blk at*
  simp[World.putObj,hne,hb],fun m es c hm=>by
  have hne:l≠m:=fun e=>by subst e;rw[h]at hm;injection hm with e;subst e;cases hw
  simp[World.putObj,hne,hm]⟩
theorem fC{W W':World}{g:Nat}{ty:TypeId}{cs:Array Value}{row:Option Nat}(h:Blk W g ty cs)(hg:W.grownBy W' row)(hr:∀r,row=some r->∃o:Obj,W.heap[r]? =some o/\o.isCells=false):Blk W' g ty cs:=by
 refine(hg.block g h.lt ?_).trans h
 intro e
 obtain⟨o,ho,hne⟩:=hr g e.symm
 unfold Blk at h
 rw[h]at ho;cases ho
 cases hne
theorem LO.nc2{α:Type}{E:Enc α}{ty:TypeId}{W W':World}{base:Nat}{v:Value}{l:List α}{row:Option Nat}(h:LO E ty W base v l)(hg:W.grownBy W' row)(hr:∀r,row=some r->∃o:Obj,W.heap[r]? =some o/\o.isCells=false):LO E ty W' base v l:=
 h.keep hg fun r e=>by
  obtain⟨o,ho,hne⟩:=hr r e
  exact⟨o,ho,fun cs e=>by rw[e]at hne;cases hne⟩
structure Coll(B n₀:Nat)(w:World)(pre:List jr)(W:World):Prop where
 ok:∀x∈pre,x.1.2.2=0
 short:(pre.flatMap (fun x=>x.1.2.1)).length<=29*pre.length
 c7:∃v,Blk W (n₀+1+1+1) 47 #[v]/\Own W n₀ v (pre.flatMap (fun x=>x.1.2.1))
 c8:∃v,Blk W (n₀+1+1+1+1) 49 #[v]/\LO aV 3 W n₀ v (pre.map (fun x=>x.1.1))
 b4:Blk W n₀ 47 #[.slice none 0 0]
 b5:Blk W (n₀+1) 49 #[.slice none 0 0]
 b6:Blk W (n₀+1+1) 33 #[.int .i64 0]
 below:Below B w W
 kept:Kept w W
structure zI(B n₀:Nat)(w:World)(pre:List jr)(W:World):Prop where
 last:∃pre' x,pre=pre'++ [x]/\(∀x∈pre',x.1.2.2=0)/\x.1.2.2≠0/\Blk W (n₀+1+1) 33 #[.int .i64 x.1.2.2]
 b4:Blk W n₀ 47 #[.slice none 0 0]
 b5:Blk W (n₀+1) 49 #[.slice none 0 0]
 below:Below B w W
 kept:Kept w W
section
variable {B n₀:Nat}{w W W':World}{pre:List jr}
theorem Coll.own(hBn:B<=n₀):OwnFrom n₀ (Coll B n₀ w):=fun s X Y row h hg hr=>
 have hr2:=fun r e=>(hr r e).2
 {
  ok:=h.ok,short:=h.short
  c7:=by obtain⟨v,h1,h2⟩:=h.c7;exact⟨v,fC h1 hg hr2,rZ ((rY h2).nc2 hg hr2)⟩
  c8:=by obtain⟨v,h1,h2⟩:=h.c8;exact⟨v,fC h1 hg hr2,h2.nc2 hg hr2⟩
  b4:=fC h.b4 hg hr2,b5:=fC h.b5 hg hr2,b6:=fC h.b6 hg hr2
  below:=h.below.grown hg (by have:=h.b4.lt;omega) (fun r e=>by have:=(hr r e).1;omega)
  kept:=fun g t cs hb h1 h2=>fC (h.kept g t cs hb h1 h2) hg hr2 }
theorem zI.own(hBn:B<=n₀):OwnFrom n₀ (zI B n₀ w):=fun s X Y row h hg hr=>
 have hr2:=fun r e=>(hr r e).2
 {
  last:=by obtain⟨p,x,h1,h2,h3,h4⟩:=h.last;exact⟨p,x,h1,h2,h3,fC h4 hg hr2⟩
  b4:=fC h.b4 hg hr2,b5:=fC h.b5 hg hr2
  below:=h.below.grown hg (by have:=h.b4.lt;omega) (fun r e=>by have:=(hr r e).1;omega)
  kept:=fun g t cs hb h1 h2=>fC (h.kept g t cs hb h1 h2) hg hr2 }
theorem Coll.ab(h:Coll B n₀ w pre W)(hg:AbL B W W'):Coll B n₀ w pre W':=
 {
  ok:=h.ok,short:=h.short
  c7:=by obtain⟨v,h1,h2⟩:=h.c7;exact⟨v,hg.kept _ _ _ h1 (by decide) (by decide),rZ ((rY h2).kept hg.kept (by decide) (by decide))⟩
  c8:=by obtain⟨v,h1,h2⟩:=h.c8;exact⟨v,hg.kept _ _ _ h1 (by decide) (by decide),h2.kept hg.kept (by decide) (by decide)⟩
  b4:=hg.kept _ _ _ h.b4 (by decide) (by decide),b5:=hg.kept _ _ _ h.b5 (by decide) (by decide),b6:=hg.kept _ _ _ h.b6 (by decide) (by decide)
  below:=h.below.trans hg.below
  kept:=h.kept.trans hg.kept }
theorem zI.ab(h:zI B n₀ w pre W)(hg:AbL B W W'):zI B n₀ w pre W':=
 {
  last:=by obtain⟨p,x,h1,h2,h3,h4⟩:=h.last;exact⟨p,x,h1,h2,h3,hg.kept _ _ _ h4 (by decide) (by decide)⟩
  b4:=hg.kept _ _ _ h.b4 (by decide) (by decide),b5:=hg.kept _ _ _ h.b5 (by decide) (by decide)
  below:=h.below.trans hg.below
  kept:=h.kept.trans hg.kept }
end
theorem QD{W:World}{Dd:Nat}{o:Obj}(hK:W.heap[Dd]? =some o)(hc:o.isCells=false):∀r,some Dd=some r->∃o:Obj,W.heap[r]? =some o/\o.isCells=false:=fun r e=>by
 cases e;exact⟨o,hK,hc⟩
theorem Uz{B f d kk n₀ Dd:Nat}{DT:Dk}{w W w6:World}{A6 A8:Option Addr}{c6 c8:Nat}{s0:List Run}{li:List Int}(hn0:w.heap.size=n₀)(hB:B<=n₀)(hF:FAt W B f d kk DT)(hbel:Below B w W)(Yu:Kept w W)
  (hb4:Blk W n₀ 47 #[.slice none 0 0]) (hb5:Blk W (n₀+1) 49 #[.slice none 0 0]) (hb6:Blk W (n₀+1+1) 33 #[.int .i64 0])
  (hDd:n₀<=Dd) (o8:LO aV 3 W n₀ (.slice A8 li.length c8) li) (hK:W.heap[Dd]? =some (.deferred (some []))) (ho6:Own w6 W.drew.heap.size (.slice A6 s0.length c6) s0) (hb:Below W.drew.heap.size W.drew w6):
  (((w6.setCell ⟨n₀,0,none⟩ (.slice A6 s0.length c6)).setCell ⟨n₀+1,0,none⟩ (.slice A8 li.length c8)).setCell ⟨n₀+1+1,0,none⟩ (.int .i64 0)).heap[Dd]? =some (.deferred (some []))/\
  ∃W4,W4=(((w6.setCell ⟨n₀,0,none⟩ (.slice A6 s0.length c6)).setCell ⟨n₀+1,0,none⟩ (.slice A8 li.length c8)).setCell ⟨n₀+1+1,0,none⟩ (.int .i64 0)).putObj Dd (.deferred none)/\
   Blk W4 n₀ 47 #[.slice A6 s0.length c6]/\Blk W4 (n₀+1) 49 #[.slice A8 li.length c8]/\Blk W4 (n₀+1+1) 33 #[.int .i64 0]/\Own W4 n₀ (.slice A6 s0.length c6) s0/\LO aV 3 W4 n₀ (.slice A8 li.length c8) li/\FAt W4 B f d kk DT/\Below B w W4/\Kept w W4:=by
 have hnW:n₀<=W.heap.size:=Nat.le_of_lt hb4.lt
 have d4:=hb4.drew.below hb hb4.lt
 have d5:=hb5.drew.below hb hb5.lt
 have d6:=hb6.drew.below hb hb6.lt
 have e8:LO aV 3 w6 n₀ (.slice A8 li.length c8) li:=LO.below (show LO aV 3 W.drew n₀ _ _ from o8) hb
 have eF:FAt w6 B f d kk DT:=(hF.dX (w':=W.drew) ⟨fun _ _ _ h _=>h,fun _ _ _ h=>h⟩).keep hb
 have eb:Below B w w6:=hbel.drew.trans (hb.mono (Nat.le_trans hB hnW))
 have ek:Kept w w6:=fun g t cs h h1 h2=>((Yu g t cs h h1 h2).drew).below hb (Yu g t cs h h1 h2).lt
 have eK:w6.heap[Dd]? =some (.deferred (some [])):=fO.below hb Dd _ hK rfl
 have o6:LO LY 64 w6 n₀ (.slice A6 s0.length c6) s0:=LO.lower (rY ho6) hnW
 clear hb hF hbel Yu hK o8 hb4 hb5 hb6 ho6
 have m4:Blk (w6.setCell ⟨n₀,0,none⟩ (.slice A6 s0.length c6)) n₀ 47 #[.slice A6 s0.length c6]:=by have:=d4.aW 0 (.slice A6 s0.length c6);simpa using this
 have m5:Blk (w6.setCell ⟨n₀,0,none⟩ (.slice A6 s0.length c6)) (n₀+1) 49 #[.slice none 0 0]:=d5.far (p:=⟨n₀,0,none⟩) (show n₀+1≠n₀ by omega) _
 have m6:Blk (w6.setCell ⟨n₀,0,none⟩ (.slice A6 s0.length c6)) (n₀+1+1) 33 #[.int .i64 0]:=d6.far (p:=⟨n₀,0,none⟩) (show n₀+1+1≠n₀ by omega) _
 have g1:=iw w6 n₀ 0 (.slice A6 s0.length c6)
 have r1:∀r,some n₀=some r->∃cs,Blk w6 r 47 cs:=fun r e=>by cases e;exact⟨_,d4⟩
 have f1:=iI.aW d4 (by decide) 0 (.slice A6 s0.length c6)
 have b1:Below B w (w6.setCell ⟨n₀,0,none⟩ (.slice A6 s0.length c6)):=eb.setCell (p:=⟨n₀,0,none⟩) hB _
 generalize w6.setCell ⟨n₀,0,none⟩ (.slice A6 s0.length c6)=W1 at*
 have n4:Blk (W1.setCell ⟨n₀+1,0,none⟩ (.slice A8 li.length c8)) n₀ 47 #[.slice A6 s0.length c6]:=m4.far (p:=⟨n₀+1,0,none⟩) (show n₀≠n₀+1 by omega) _
 have n5:Blk (W1.setCell ⟨n₀+1,0,none⟩ (.slice A8 li.length c8)) (n₀+1) 49 #[.slice A8 li.length c8]:=by have:=m5.aW 0 (.slice A8 li.length c8);simpa using this
 have n6:Blk (W1.setCell ⟨n₀+1,0,none⟩ (.slice A8 li.length c8)) (n₀+1+1) 33 #[.int .i64 0]:=m6.far (p:=⟨n₀+1,0,none⟩) (show n₀+1+1≠n₀+1 by omega) _
 have g2:=iw W1 (n₀+1) 0 (.slice A8 li.length c8)
 have r2:∀r,some (n₀+1)=some r->∃cs,Blk W1 r 49 cs:=fun r e=>by cases e;exact⟨_,m5⟩
 have f2:=iI.aW m5 (by decide) 0 (.slice A8 li.length c8)
 have b2:Below B w (W1.setCell ⟨n₀+1,0,none⟩ (.slice A8 li.length c8)):=b1.setCell (p:=⟨n₀+1,0,none⟩) (show B<=n₀+1 by omega) _
 generalize W1.setCell ⟨n₀+1,0,none⟩ (.slice A8 li.length c8)=W2 at*
 have q4:Blk (W2.setCell ⟨n₀+1+1,0,none⟩ (.int .i64 0)) n₀ 47 #[.slice A6 s0.length c6]:=n4.far (p:=⟨n₀+1+1,0,none⟩) (show n₀≠n₀+1+1 by omega) _
 have q5:Blk (W2.setCell ⟨n₀+1+1,0,none⟩ (.int .i64 0)) (n₀+1) 49 #[.slice A8 li.length c8]:=n5.far (p:=⟨n₀+1+1,0,none⟩) (show n₀+1≠n₀+1+1 by omega) _
 have q6:Blk (W2.setCell ⟨n₀+1+1,0,none⟩ (.int .i64 0)) (n₀+1+1) 33 #[.int .i64 0]:=by have:=n6.aW 0 (.int .i64 0);simpa using this
 have g3:=iw W2 (n₀+1+1) 0 (.int .i64 0)
 have r3:∀r,some (n₀+1+1)=some r->∃cs,Blk W2 r 33 cs:=fun r e=>by cases e;exact⟨_,n6⟩
 have f3:=iI.aW n6 (by decide) 0 (.int .i64 0)
 have b3:Below B w (W2.setCell ⟨n₀+1+1,0,none⟩ (.int .i64 0)):=b2.setCell (p:=⟨n₀+1+1,0,none⟩) (show B<=n₀+1+1 by omega) _
 have k3:=((ek.far g1 (by omega)).far g2 (by omega)).far g3 (by omega)
 have hoth:=(jf g1 r1).trans ((jf g2 r2).trans (jf g3 r3))
 have p8:=jk g3 r3 (jk g2 r2 (jk g1 r1 e8 (by decide)) (by decide)) (by decide)
 have p6:=jk g3 r3 (jk g2 r2 (jk g1 r1 o6 (by decide)) (by decide)) (by decide)
 generalize W2.setCell ⟨n₀+1+1,0,none⟩ (.int .i64 0)=W3 at*
 have hK3:=hoth Dd _ eK rfl
 have hg:=grownBy_putObj' W3 Dd (.deferred none)
 have hr:=QD hK3 rfl
 refine⟨hK3,_,rfl,fC q4 hg hr,fC q5 hg hr,fC q6 hg hr,rZ (p6.nc2 hg hr),p8.nc2 hg hr,(eF.dX (f1.trans (f2.trans f3))).dX (tN W3 Dd _ _ hK3 rfl rfl),b3.grown hg (by have:=b3.size;omega) (fun r e=>by cases e;omega),fun g t cs h h1 h2=>fC (k3 g t cs h h1 h2) hg hr⟩
theorem UA{w:World}{B f d kk N:Nat}{D:Dk}(hFA:FAt w B f d kk D)(hL:Lim D N)(hN:N+20000<1000000000000)(hT:HT w)(hB0:1<B)(hB:B<=w.heap.size)(pg:Int->Option (Nat × Bs))
  (hpg:∀id,aS D.sure.length id=false->D.down=false->iH D id (pg id)) (head:Int) (hw:(Lit.int .i64 head).wf=true):
  Calls Tryz.prog 166 #[.pointer (some ⟨f,0,none⟩), .int .i64 head] w
   (afa B f d kk (zH (chL D.sure.length D.down pg (D.sure.length+1) [] head)) (chD D.sure.length D.down pg (D.sure.length+1) D [] head) w):=by
 obtain⟨T,hT0⟩:∃T,T=chL D.sure.length D.down pg (D.sure.length+1) [] head:=⟨_,rfl⟩
 obtain⟨DT,hD0⟩:∃DT,DT=chD D.sure.length D.down pg (D.sure.length+1) D [] head:=⟨_,rfl⟩
 rw[<-hT0, <-hD0]
 have hlast:∀u y rest,T=u++y::rest->y.2.2≠0->rest= []:=fun u y rest h hy=>Yt _ _ _ (hT0.symm.trans h) hy
 obtain⟨R,hR⟩:∃R,R=zH T:=⟨_,rfl⟩
 rw[<-hR]
 have HT0:=Lib.hid hT0
 have HD0:=Lib.hid hD0
 have HR:=Lib.hid hR
 have afc:=Lib.hid hlast
 have HPG:=Lib.hid hpg
 clear hT0 hD0 hR hlast hpg
 refine(callsIn_wide (n:=2)).1 ?_
 refine callsIn_of_wp_marks Tryz.func166 rfl trivial ?_ rfl
 simp only[Tryz.ntmps166,List.size_toArray,List.length_cons,List.length_nil,Nat.reduceAdd,Nat.reduceSub,Array.replicate_succ,Array.replicate_zero,List.push_toArray,List.append_toArray,List.nil_append,List.cons_append]
 gi_wp2_with fail
 refine⟨trivial,(callsIn_wide.2 (Gj f _)).mono ?_⟩
 rintro e w1 ⟨rfl,rfl⟩
 gi_wp2_with fail
 refine⟨trivial,(callsIn_wide.2 (Gn f head _)).mono ?_⟩
 rintro e w1 ⟨rfl,rfl⟩
 gi_wp2_with fail
 have hn:=hL.n
 have hM:T.length<=16385:=by have:=aaq (n:=D.sure.length) (down:=D.down) (pg:=pg) (D.sure.length+1) [] head;rw[<-HT0.out]at this;omega
 obtain⟨n₀,hn0⟩:∃n₀,w.heap.size=n₀:=⟨_,rfl⟩
 have k4:=Blk.new w 47 #[.slice none 0 0]
 have hb1:Below w.heap.size w (w.alloc (.cells #[.slice none 0 0] 47)):=(Below.refl _ w).alloc (Nat.le_refl _) _
 have hs1:(w.alloc (.cells #[.slice none 0 0] 47)).heap.size=n₀+1:=by simp[hn0]
 rw[hn0]at k4 hb1 ⊢
 generalize w.alloc (.cells #[.slice none 0 0] 47)=u1 at*
 have k5:=Blk.new u1 49 #[.slice none 0 0]
 have hb2:=hb1.alloc (o:= .cells #[.slice none 0 0] 49) (by omega)
 have hs2:(u1.alloc (.cells #[.slice none 0 0] 49)).heap.size=n₀+1+1:=by simp[hs1]
 replace k4:=k4.alloc (.cells #[.slice none 0 0] 49)
 rw[hs1]at k5
 generalize u1.alloc (.cells #[.slice none 0 0] 49)=u2 at*
 have k6:=Blk.new u2 33 #[.int .i64 0]
 have hb3:=hb2.alloc (o:= .cells #[.int .i64 0] 33) (by omega)
 have hs3:(u2.alloc (.cells #[.int .i64 0] 33)).heap.size=n₀+1+1+1:=by simp[hs2]
 replace k4:=k4.alloc (.cells #[.int .i64 0] 33)
 replace k5:=k5.alloc (.cells #[.int .i64 0] 33)
 rw[hs2]at k6
 generalize u2.alloc (.cells #[.int .i64 0] 33)=u3 at*
 have k7:=Blk.new u3 47 #[.slice none 0 0]
 have hb4:=hb3.alloc (o:= .cells #[.slice none 0 0] 47) (by omega)
 have hs4:(u3.alloc (.cells #[.slice none 0 0] 47)).heap.size=n₀+1+1+1+1:=by simp[hs3]
 replace k4:=k4.alloc (.cells #[.slice none 0 0] 47)
 replace k5:=k5.alloc (.cells #[.slice none 0 0] 47)
 replace k6:=k6.alloc (.cells #[.slice none 0 0] 47)
 rw[hs3]at k7
 generalize u3.alloc (.cells #[.slice none 0 0] 47)=u4 at*
 have k8:=Blk.new u4 49 #[.slice none 0 0]
 have hb5:=hb4.alloc (o:= .cells #[.slice none 0 0] 49) (by omega)
 have hs5:(u4.alloc (.cells #[.slice none 0 0] 49)).heap.size=n₀+1+1+1+1+1:=by simp[hs4]
 replace k4:=k4.alloc (.cells #[.slice none 0 0] 49)
 replace k5:=k5.alloc (.cells #[.slice none 0 0] 49)
 replace k6:=k6.alloc (.cells #[.slice none 0 0] 49)
 replace k7:=k7.alloc (.cells #[.slice none 0 0] 49)
 rw[hs4]at k8
 generalize u4.alloc (.cells #[.slice none 0 0] 49)=u5 at*
 have kf:=Blk.new u5 27 #[.pointer (some ⟨f,0,none⟩)]
 have hb6:=hb5.alloc (o:= .cells #[.pointer (some ⟨f,0,none⟩)] 27) (by omega)
 have hs6:(u5.alloc (.cells #[.pointer (some ⟨f,0,none⟩)] 27)).heap.size=n₀+1+1+1+1+1+1:=by simp[hs5]
 replace k4:=k4.alloc (.cells #[.pointer (some ⟨f,0,none⟩)] 27)
 replace k5:=k5.alloc (.cells #[.pointer (some ⟨f,0,none⟩)] 27)
 replace k6:=k6.alloc (.cells #[.pointer (some ⟨f,0,none⟩)] 27)
 replace k7:=k7.alloc (.cells #[.pointer (some ⟨f,0,none⟩)] 27)
 replace k8:=k8.alloc (.cells #[.pointer (some ⟨f,0,none⟩)] 27)
 rw[hs5]at kf
 generalize u5.alloc (.cells #[.pointer (some ⟨f,0,none⟩)] 27)=u6 at*
 have kh:=Blk.new u6 3 #[.int .i64 head]
 have hb7:=hb6.alloc (o:= .cells #[.int .i64 head] 3) (by omega)
 have hs7:(u6.alloc (.cells #[.int .i64 head] 3)).heap.size=n₀+1+1+1+1+1+1+1:=by simp[hs6]
 replace k4:=k4.alloc (.cells #[.int .i64 head] 3)
 replace k5:=k5.alloc (.cells #[.int .i64 head] 3)
 replace k6:=k6.alloc (.cells #[.int .i64 head] 3)
 replace k7:=k7.alloc (.cells #[.int .i64 head] 3)
 replace k8:=k8.alloc (.cells #[.int .i64 head] 3)
 replace kf:=kf.alloc (.cells #[.int .i64 head] 3)
 rw[hs6]at kh
 generalize u6.alloc (.cells #[.int .i64 head] 3)=u7 at*
 clear hb1 hb2 hb3 hb4 hb5 hb6 hs1 hs2 hs3 hs4 hs5 hs6
 rw[hn0]at hB
 rw[<-hn0]at hb7
 have hF7:=hFA.keep hb7
 have hT7:=hT.below (hb7.mono (by omega)) hB0
 rw[hn0]at hb7
 have hseq:adA Fence.wide 1 Tryz.prog 285 #[.pointer (some ⟨n₀+1+1+1+1+1+1,0,none⟩), .pointer (some ⟨n₀+1+1+1+1+1,0,none⟩)] IJ (KpL n₀) (AbL B) (GL (n₀+1+1+1+1+1+1+1) T) (SL B f d kk T DT) (SpL B f d kk T DT) T.length u7:=by
  intro l J Jx W hW hJA aie hY h0
  have hWs:=hW.size
  exact Gp l B f d kk N n₀ _ _ _ T.length D pg head J Jx (KpL n₀) T DT W HT0.out HD0.out (Nat.le_refl _) (by omega) (hF7.keep hW) hL hN (hT7.below (hW.mono (show 1+1<=_ by omega)) (by omega)) hB0 (by omega) (by omega) hw HPG.out
   ((hW.cell (by show n₀+1+1+1+1+1+1<_;omega)).trans (kh.cell 0)) (by omega) (kf.below hW (by omega)) (fun _ _ h=>h) hJA hY h0
 have hk0:Kept w u7:=Kept.below (by rw[hn0];exact hb7)
 have ac1:Coll B n₀ w [] u7:=⟨by simp,by simp,⟨_,k7,Own.nil_ _ _⟩,⟨_,k8,LO.nil_ _ _⟩,k4,k5,k6,hb7.mono hB,hk0⟩
 refine yg rfl (by decide) (gf:=285) rfl trivial (enters_of Tryz.func285 (by kernel_rfl) rfl) hseq afb (aar (by omega)) (fun _ _ k o h=>h.oth k o) (fun _=>rfl)
  (Coll B n₀ w) (fun k pre W=>k= .ret/\zI B n₀ w pre W)
  (fun s X Y row h hg hr=>Coll.own hB s X Y row h hg (fun r e=>⟨by have:=(hr r e).1;omega,(hr r e).2⟩))
  (fun _ s X Y row h hg hr=>⟨h.1,zI.own hB s X Y row h.2 hg (fun r e=>⟨by have:=(hr r e).1;omega,(hr r e).2⟩)⟩)
  (fun _ _ _ h hg=>h.ab hg) (fun _ _ _ _ h hg=>⟨h.1,h.2.ab hg⟩)
  (fun s W l o o' h _ ho h1 h2=>⟨h.1,h.2.dX (tN W l o o' ho h1 h2)⟩)
  (fun s W l o o' h _ ho h1 h2=>⟨h.1,by obtain⟨Dj,h3,h4⟩:=h.2;exact⟨Dj,h3.dX (tN W l o o' ho h1 h2),h4⟩⟩)
  ac1 (AxR n₀ f head T)
  (fun a' s X Y row h hg hr=>by
   obtain⟨p,id,lr,er,A,c,Bx,h1,h2,h3,h4,h5⟩:=h
   exact⟨p,id,lr,er,A,c,Bx,h1,h2,fC h3 hg (fun r e=>(hr r e).2),rZ ((rY h4).nc2 hg (fun r e=>(hr r e).2)),h5⟩)
  ?assign ?body ?done ?stop
 case assign=>
  rintro lp pre ⟨⟨id,lr,er⟩,v⟩ W K hI ⟨p2,x2,he,ho,ac2,hpx⟩ hK
  obtain⟨he1,he2⟩:=List.append_inj' he rfl
  cases he2
  simp only at ho ac2
  obtain⟨A,c,rfl⟩:=ho.form
  unfold IJ
  gi_wp2
  have hnW:n₀<=W.heap.size:=Nat.le_of_lt hI.b4.lt
  have hbA:Below W.heap.size W (W.alloc (.cells #[.int .i64 id, .slice A lr.length c, .int .i64 er] 331)):=(Below.refl _ W).alloc (Nat.le_refl _) _
  exact hK _ _ ((KeepsOthers.alloc _ _).from _) ⟨hbA.mono hnW,fun _ _ _ h _=>h.alloc _,(fO.below hbA).maps⟩ (OwnFrom.alloc (Coll.own hB) _ hI) ⟨pre,id,lr,er,A,c,W.heap.size,rfl,hnW,Blk.new _ _ _,rZ ((rY ho).alloc _),ac2,hpx,rfl⟩
 case body=>
  rintro lp pre x a' W hlp hI ⟨p2,id,lr,er,A,c,Bx,he,hBx,hbl,hown,ac2,hpx,rfl⟩ hlt
  obtain⟨he1,he2⟩:=List.append_inj' he rfl
  subst he1
  cases he2
  have x2:=hbl.cell 2
  have hnW:n₀<=W.heap.size:=Nat.le_of_lt hI.b4.lt
  by_cases her:er=0
  ·subst her
   obtain⟨vl,k7,o7⟩:=hI.c7
   obtain⟨vi,k8,o8⟩:=hI.c8
   gi_wp2
   refine wpIn_region_any (by kernel_rfl) (JE (fun L a1 w1=>L.size=11/\St n₀ n₀ (n₀+1) (n₀+1+1) (n₀+1+1+1) (n₀+1+1+1+1) Bx (pre.flatMap (fun x=>x.1.2.1)) lr (pre.map (fun x=>x.1.1)) id 0 A c vl vi W (fun i=>L.getD i false) a1 w1) ?d7 ?s7 _ _ _ _ ?i7 rfl ?c7)
   case i7=>exact⟨rfl, { hn:=hnW,sz:=rfl,fx:=⟨rfl,rfl,rfl⟩,d3:=fun h=>(by cases h),d8:=fun h=>(by cases h),d9:=fun h=>(by cases h),d10:=fun h=>(by cases h),t0:=fun h=>(by cases h),t1:=fun h=>(by cases h),t2:=fun h=>(by cases h),t3:=fun h=>(by cases h),t4:=fun h=>(by cases h),t5:=fun h=>(by cases h),t6:=fun h=>(by cases h),t7:=fun h=>(by cases h),t8:=fun h=>(by cases h),o3:=fun _=>⟨o7,hown.rs⟩,o8:=fun _=>o8,c7:=⟨_,k7,fun _=>rfl,fun h=>(by cases h)⟩,c8:=⟨_,k8,fun _=>rfl,fun h=>(by cases h)⟩,link:=hbl,b4:=hI.b4,b5:=hI.b5,b6:=hI.b6,below:=(Below.refl n₀ W).drew,blk:=fun _ _ _ h _=>h,oth:=fO.refl _ }⟩
   case c7=>decide
   case d7=>
    rintro L a1 w1 ⟨hLs,hS⟩ hr
    have hall:=sV hr hLs rfl
    have p3:=hall 3 (by decide)
    have p8:=hall 8 (by decide)
    have p9:=hall 9 (by decide)
    have p10:=hall 10 (by decide)
    obtain⟨x7,q7,_,q7b⟩:=hS.c7
    obtain⟨x8,q8,_,q8b⟩:=hS.c8
    have o7n:=hS.t3 p3
    have o8n:=hS.t8 p8
    rw[<-q7b p9]at o7n
    rw[<-q8b p10]at o8n
    have hshort:((pre++ [(((id,lr,0), .slice A lr.length c):jr)]).flatMap (fun x=>x.1.2.1)).length<=29*(pre++ [(((id,lr,0), .slice A lr.length c):jr)]).length:=by
     have h1:=hI.short
     have h2:(List.flatMap (fun x:jr=>x.1.2.1) [((id,lr,0), .slice A lr.length c)]).length=lr.length:=by simp
     rw[List.flatMap_append,List.length_append,List.length_append,h2]
     simp only[List.length_cons,List.length_nil]
     omega
    have hend:KeepsFrom u7.heap.size W w1/\KpL n₀ W w1/\Coll B n₀ w (pre++ [((id,lr,0), .slice A lr.length c)]) w1:=
     ⟨⟨hS.below.size,fun k o _ hk hc=>hS.oth k o hk hc⟩,⟨hS.below,hS.blk,hS.oth.maps⟩,
      {
       ok:=fun x hx=>by
        rcases List.mem_append.1 hx with hx | hx
        ·exact hI.ok x hx
        ·rw[List.mem_singleton]at hx;subst hx;rfl
       short:=hshort
       c7:=⟨x7,q7,by rw[List.flatMap_append];simpa using o7n⟩
       c8:=⟨x8,q8,by rw[List.map_append];exact o8n⟩
       b4:=hS.b4,b5:=hS.b5,b6:=hS.b6
       below:=hI.below.trans (hS.below.mono hB)
       kept:=fun g t cs hb h1 h2=>Blk.below (B:=n₀) (hI.kept g t cs hb h1 h2) hS.below (hn0 ▸ hb.lt) }⟩
    have HE:=Lib.hid hend
    clear hend hS
    gi_wp2
    exact HE.out
   case s7=>
    rintro L a1 w1 i ⟨hLs,hS⟩ hi
    obtain⟨ahh,hni,hpre⟩:=iO hi
    have ahv:i<11:=ahh
    have hnf:L.getD i false=false:=by simpa[Array.getD,show i<L.size by omega]using hni
    have ug:(fun j=>(L.setIfInBounds i true).getD j false)=upd (fun j=>L.getD j false) i:=by
     funext j
     unfold upd
     by_cases e:j=i
     ·subst e;rw[qX (by omega)];simp
     ·rw[iU (Ne.symm e)];simp[e]
    have hnext:(L.setIfInBounds i true).size=11:=by simp[hLs]
    have nf9:L.getD 0 false=false\/L.getD 3 false=false\/L.getD 8 false=false->L.getD 9 false=false:=fun h=>by
     cases h9:L.getD 9 false with
     |false=>rfl
     |true=>
      have h3:L.getD 3 false=true:=(hS.d9 h9).1
      have h8:L.getD 8 false=true:=(hS.d9 h9).2
      have h0:L.getD 0 false=true:=(hS.d3 h3).1
      rw[h0,h3,h8]at h
      simp at h
    have nf8:L.getD 3 false=false->L.getD 8 false=false:=fun h=>by
     cases h8:L.getD 8 false with
     |false=>rfl
     |true=>
      have h3:L.getD 3 false=true:=(hS.d8 h8).1
      rw[h3]at h
      cases h
    have afd:L.getD 8 false=false\/L.getD 4 false=false\/L.getD 9 false=false->L.getD 10 false=false:=fun h=>by
     cases h10:L.getD 10 false with
     |false=>rfl
     |true=>
      have h9:L.getD 9 false=true:=hS.d10 h10
      have h8:L.getD 8 false=true:=(hS.d9 h9).2
      have h4:L.getD 4 false=true:=(hS.d8 h8).2
      rw[h9,h8,h4]at h
      simp at h
    have ahi:i=0\/i=1\/i=2\/i=3\/i=4\/i=5\/i=6\/i=7\/i=8\/i=9\/i=10:=by omega
    rcases ahi with rfl | rfl | rfl | rfl | rfl | rfl | rfl | rfl | rfl | rfl | rfl
    ·obtain⟨x,q1,q2,q3⟩:=hS.c7
     have hx:x=vl:=q2 (nf9 (.inl hnf))
     subst hx
     exact jJ rfl rfl (by intro c h;cases h) (QC rfl hS.fx.1 (q1.cell 0)) ⟨hnext,by rw[ug];exact hS.s0⟩
    ·exact jJ rfl rfl (by intro c h;cases h) (Yp rfl hS.fx.2.2) ⟨hnext,by rw[ug];exact hS.s1⟩
    ·have p1:=hpre _ rfl ⟨1, .data⟩ (by simp) rfl
     exact jJ rfl rfl (by intro c h;cases h) (QC rfl (hS.t1 p1) (hS.link.cell 1)) ⟨hnext,by rw[ug];exact hS.s2⟩
    ·have p0:=hpre _ rfl ⟨0, .data⟩ (by simp) rfl
     have p2:=hpre _ rfl ⟨2, .data⟩ (by simp) rfl
     obtain⟨oa,ob⟩:=hS.o3 hnf
     obtain⟨i1,ei1,ei2,ei3,ei4⟩:=qC
     have hfl:=hI.short
     obtain⟨v',w',hrun,hown',hgr,hbk⟩:=mg (P:=Tryz.prog) w1 n₀ 47 47 64 i1 (.agg #[.int .i64 0, .int .i64 0]) 2 16 Tryz.underlying47 ei1 ei2 ei3 ei4 (by decide) (by decide) vl _ _ oa w1.heap.size A lr.length c _ ob (LY.jv lr) (by unfold maxLen;omega) (by omega) (Nat.le_trans hnW hS.below.size)
     have hown2:Own w' n₀ v' (pre.flatMap (fun x=>x.1.2.1)++lr):=by
      unfold Own
      rw[List.length_append,show bT (pre.flatMap (fun x=>x.1.2.1)++lr)=bT (pre.flatMap (fun x=>x.1.2.1))++bT lr from LY.dS _ _]
      exact hown'
     exact jJ rfl rfl (by intro c h;cases h) (Yr rfl (hS.t0 p0) (hS.t2 p2) hrun) ⟨hnext,by rw[ug];exact hS.s3 hnf (nf8 hnf) p0 p2 hown2 hgr⟩
    ·obtain⟨x,q1,q2,q3⟩:=hS.c8
     have hx:x=vi:=q2 (afd (.inr (.inl hnf)))
     subst hx
     exact jJ rfl rfl (by intro c h;cases h) (aan rfl hS.fx.2.1 (q1.cell 0)) ⟨hnext,by rw[ug];exact hS.s4⟩
    ·exact jJ rfl rfl (by intro c h;cases h) (Yq rfl hS.fx.2.2) ⟨hnext,by rw[ug];exact hS.s5⟩
    ·have p5:=hpre _ rfl ⟨5, .data⟩ (by simp) rfl
     exact jJ rfl rfl (by intro c h;cases h) (acZ rfl (hS.t5 p5) (hS.link.cell 0)) ⟨hnext,by rw[ug];exact hS.s6⟩
    ·have p6:=hpre _ rfl ⟨6, .data⟩ (by simp) rfl
     exact jJ rfl rfl (by intro c h;cases h) (ac0 rfl (hS.t6 p6)) ⟨hnext,by rw[ug];exact hS.s7⟩
    ·have p4:=hpre _ rfl ⟨4, .data⟩ (by simp) rfl
     have p7:=hpre _ rfl ⟨7, .data⟩ (by simp) rfl
     have p3:=hpre _ rfl ⟨3, .chain⟩ (by simp) rfl
     obtain⟨q,eq1,eq2⟩:=hS.t7 p7 hnf
     have oa:=hS.o8 hnf
     obtain⟨i1,ei1,ei2,ei3,ei4⟩:=wL
     have hq1:Reads w1 w1.heap.size 1 (some ⟨q,0,none⟩) 1 [.int .i64 id]:=⟨rfl,fun _=>⟨_,rfl,eq2.lt,fun j u hu=>by
      have hj:j=0:=by have:=(List.getElem?_eq_some_iff.1 hu).1;simp at this;omega
      subst hj
      rw[Addr.add_lit]
      exact(eq2.cell 0).trans hu⟩⟩
     obtain⟨v',w',hrun,hown',hgr,hbk⟩:=mg (P:=Tryz.prog) w1 n₀ 49 49 3 i1 (.int .i64 0) 1 8 Tryz.underlying49 ei1 ei2 ei3 ei4 (by decide) (by decide) vi _ _ oa w1.heap.size (some ⟨q,0,none⟩) 1 1 _ hq1 (by simp[Value.oneCell']) (by rw[List.length_map];unfold maxLen;omega) (by rw[List.length_map];omega) (Nat.le_trans hnW hS.below.size)
     exact jJ rfl rfl (by intro c h;cases h) (Yr rfl (hS.t4 p4) eq1 hrun) ⟨hnext,by rw[ug];exact hS.s8 p3 hnf p4 (LO.snoc (E:=aV) (x:=id) rfl rfl rfl hown') hgr⟩
    ·have p3:=hpre _ rfl ⟨3, .data⟩ (by simp) rfl
     have p8:=hpre _ rfl ⟨8, .chain⟩ (by simp) rfl
     obtain⟨x,q1,q2,q3⟩:=hS.c7
     have hv:=hS.t3 p3
     obtain⟨A3,c3,hv3⟩:=hv.form
     have hsx:=hS.s9 p3 p8 (afd (.inr (.inr hnf))) (by omega) (by omega)
     rw[hv3]at hsx
     exact Fh rfl rfl (by intro c h;cases h) (aao rfl hS.fx.1 hv3 (q1.cell 0) (q1.frozen 0)) ⟨hnext,by rw[ug];exact hsx⟩
    ·have p8:=hpre _ rfl ⟨8, .data⟩ (by simp) rfl
     have p9:=hpre _ rfl ⟨9, .chain⟩ (by simp) rfl
     obtain⟨x,q1,q2,q3⟩:=hS.c8
     have hv:=hS.t8 p8
     obtain⟨A3,c3,hv3⟩:=hv.form
     have hsx:=hS.s10 p8 p9 (by omega) (by omega)
     rw[hv3]at hsx
     exact Fh rfl rfl (by intro c h;cases h) (aap rfl hS.fx.2.1 hv3 (q1.cell 0) (q1.frozen 0)) ⟨hnext,by rw[ug];exact hsx⟩
  ·have hq:(er != 0)=true:=by simpa using her
   have c4:=hI.b4.cell 0
   have c5:=hI.b5.cell 0
   have c6:=hI.b6.cell 0
   have f4:=hI.b4.frozen 0
   have f5:=hI.b5.frozen 0
   have f6:=hI.b6.frozen 0
   have hgr:W.grownBy (((W.setCell ⟨n₀,0,none⟩ (.slice none 0 0)).setCell ⟨n₀+1,0,none⟩ (.slice none 0 0)).setCell ⟨n₀+1+1,0,none⟩ (.int .i64 er)) (some n₀)->True:=fun _=>trivial
   have hpost:KeepsFrom u7.heap.size W (((W.setCell ⟨n₀,0,none⟩ (.slice none 0 0)).setCell ⟨n₀+1,0,none⟩ (.slice none 0 0)).setCell ⟨n₀+1+1,0,none⟩ (.int .i64 er)).drew/\KpL n₀ W (((W.setCell ⟨n₀,0,none⟩ (.slice none 0 0)).setCell ⟨n₀+1,0,none⟩ (.slice none 0 0)).setCell ⟨n₀+1+1,0,none⟩ (.int .i64 er)).drew/\zI B n₀ w (pre++ [((id,lr,er), .slice A lr.length c)]) (((W.setCell ⟨n₀,0,none⟩ (.slice none 0 0)).setCell ⟨n₀+1,0,none⟩ (.slice none 0 0)).setCell ⟨n₀+1+1,0,none⟩ (.int .i64 er)).drew:=by
    have e4:Blk (W.setCell ⟨n₀,0,none⟩ (.slice none 0 0)) n₀ 47 #[.slice none 0 0]:=by have:=hI.b4.aW 0 (.slice none 0 0);simpa using this
    have e5:Blk (W.setCell ⟨n₀,0,none⟩ (.slice none 0 0)) (n₀+1) 49 #[.slice none 0 0]:=hI.b5.far (p:=⟨n₀,0,none⟩) (by simp) _
    have e6:Blk (W.setCell ⟨n₀,0,none⟩ (.slice none 0 0)) (n₀+1+1) 33 #[.int .i64 0]:=hI.b6.far (p:=⟨n₀,0,none⟩) (show n₀+1+1≠n₀ by omega) _
    have g1:=iw W n₀ 0 (.slice none 0 0)
    have r1:∀r,some n₀=some r->∃cs,Blk W r 47 cs:=fun r e=>by cases e;exact⟨_,hI.b4⟩
    have hb1:Below n₀ W (W.setCell ⟨n₀,0,none⟩ (.slice none 0 0)):=(Below.refl _ _).setCell (p:=⟨n₀,0,none⟩) (Nat.le_refl _) _
    have ko1:=KeepsOthers.setCell W ⟨n₀,0,none⟩ (.slice none 0 0)
    generalize W.setCell ⟨n₀,0,none⟩ (.slice none 0 0)=W1 at*
    have m4:Blk (W1.setCell ⟨n₀+1,0,none⟩ (.slice none 0 0)) n₀ 47 #[.slice none 0 0]:=e4.far (p:=⟨n₀+1,0,none⟩) (show n₀≠n₀+1 by omega) _
    have m5:Blk (W1.setCell ⟨n₀+1,0,none⟩ (.slice none 0 0)) (n₀+1) 49 #[.slice none 0 0]:=by have:=e5.aW 0 (.slice none 0 0);simpa using this
    have m6:Blk (W1.setCell ⟨n₀+1,0,none⟩ (.slice none 0 0)) (n₀+1+1) 33 #[.int .i64 0]:=e6.far (p:=⟨n₀+1,0,none⟩) (show n₀+1+1≠n₀+1 by omega) _
    have g2:=iw W1 (n₀+1) 0 (.slice none 0 0)
    have r2:∀r,some (n₀+1)=some r->∃cs,Blk W1 r 49 cs:=fun r e=>by cases e;exact⟨_,e5⟩
    have hb2:Below n₀ W (W1.setCell ⟨n₀+1,0,none⟩ (.slice none 0 0)):=hb1.setCell (p:=⟨n₀+1,0,none⟩) (by show _<=n₀+1;omega) _
    have ko2:=ko1.trans (KeepsOthers.setCell W1 ⟨n₀+1,0,none⟩ (.slice none 0 0))
    generalize W1.setCell ⟨n₀+1,0,none⟩ (.slice none 0 0)=W2 at*
    have n4:Blk (W2.setCell ⟨n₀+1+1,0,none⟩ (.int .i64 er)) n₀ 47 #[.slice none 0 0]:=m4.far (p:=⟨n₀+1+1,0,none⟩) (show n₀≠n₀+1+1 by omega) _
    have n5:Blk (W2.setCell ⟨n₀+1+1,0,none⟩ (.int .i64 er)) (n₀+1) 49 #[.slice none 0 0]:=m5.far (p:=⟨n₀+1+1,0,none⟩) (show n₀+1≠n₀+1+1 by omega) _
    have n6:Blk (W2.setCell ⟨n₀+1+1,0,none⟩ (.int .i64 er)) (n₀+1+1) 33 #[.int .i64 er]:=by have:=m6.aW 0 (.int .i64 er);simpa using this
    have g3:=iw W2 (n₀+1+1) 0 (.int .i64 er)
    have r3:∀r,some (n₀+1+1)=some r->∃cs,Blk W2 r 33 cs:=fun r e=>by cases e;exact⟨_,m6⟩
    have hb3:Below n₀ W (W2.setCell ⟨n₀+1+1,0,none⟩ (.int .i64 er)):=hb2.setCell (p:=⟨n₀+1+1,0,none⟩) (by show _<=n₀+1+1;omega) _
    have ko3:=ko2.trans (KeepsOthers.setCell W2 ⟨n₀+1+1,0,none⟩ (.int .i64 er))
    have hoth:=(jf g1 r1).trans ((jf g2 r2).trans (jf g3 r3))
    have hblk:∀ (g:Nat) (t:TypeId) (cs:Array Value),Blk W g t cs->bodyT t=false->Blk (W2.setCell ⟨n₀+1+1,0,none⟩ (.int .i64 er)) g t cs:=fun g t cs hb ht=>bn g3 r3 (bn g2 r2 (bn g1 r1 hb (nH ht (by decide))) (nH ht (by decide))) (nH ht (by decide))
    generalize W2.setCell ⟨n₀+1+1,0,none⟩ (.int .i64 er)=W3 at*
    exact⟨⟨(ko3.from u7.heap.size).size,(ko3.from u7.heap.size).same⟩,⟨hb3.drew,hblk,hoth.maps⟩,⟨_,_,rfl,hI.ok,her,n6⟩,n4,n5,(hI.below.trans (hb3.mono hB)).drew,fun g t cs hb h1 h2=>Blk.below (B:=n₀) (hI.kept g t cs hb h1 h2) hb3.drew (hn0 ▸ hb.lt)⟩
   clear hgr
   have HPO:=Lib.hid hpost
   clear hpost
   gi_wp2
   gi_region
   all_goals gi_wp2
   all_goals exact⟨HPO.out.1,HPO.out.2.1,rfl,HPO.out.2.2⟩
 case done=>
  rintro Dd ys W hDd ⟨hys,hF⟩ hC hK
  have hbel:=hC.below
  have Yu:=hC.kept
  have hb4:=hC.b4
  have hb5:=hC.b5
  have hb6:=hC.b6
  have hfind:T.find? (fun y=>decide (y.2.2≠0))=none:=by
   rw[<-hys,List.find?_eq_none]
   intro y hy
   obtain⟨z,hz,rfl⟩:=List.mem_map.1 hy
   simp[hC.ok z hz]
  have hRR:R=(Rp.norm (ys.flatMap (fun x=>x.1.2.1)),ys.map (fun x=>x.1.1),0):=by
   rw[HR.out]
   unfold zH
   rw[hfind, <-hys]
   simp only
   rw[List.flatMap_map,List.map_map]
   rfl
  have HRR:=Lib.hid hRR
  clear hRR hfind
  obtain⟨vl,k7,o7⟩:=hC.c7
  obtain⟨vi,k8,o8⟩:=hC.c8
  obtain⟨A7,c7,rfl⟩:=o7.form
  obtain⟨A8,c8,rfl⟩:=o8.form
  have hnm:=kH A7 c7 (ys.flatMap (fun x:jr=>x.1.2.1)) W.drew (show RS W.drew W.drew.heap.size A7 (ys.flatMap (fun x:jr=>x.1.2.1))from o7.rs) (by have:=hC.short;have:ys.length<=16385:=by { have:=congrArg List.length hys;rw[List.length_map]at this;omega };omega)
  have y7:=k7.cell 0
  have y8:=k8.cell 0
  have y4:=hb4.cell 0
  have y5:=hb5.cell 0
  have y6:=hb6.cell 0
  have z4:=hb4.frozen 0
  have z5:=hb5.frozen 0
  have z6:=hb6.frozen 0
  have l8:=k8.lt
  have hll:=hC.short
  clear hC
  generalize ys.flatMap (fun x:jr=>x.1.2.1)=ll at*
  generalize ys.map (fun x:jr=>x.1.1)=li at*
  have hnl:=Lib.hid (bC ll)
  generalize Rp.norm ll=s0 at*
  have HNM:=Lib.hid hnm
  clear hnm
  gi_wp2
  refine wpIn_wide.2 ?_
  go_region_with (go_at_call 33;refine HNM.out.mono ?_;intro e w6 h6;obtain⟨A6,c6,rfl,ho6,hr6,LZ⟩:=h6.open_;have y8':=(k8.drew.below LZ l8).cell 0;have y4':=(hb4.drew.below LZ hb4.lt).cell 0;have z4':=(hb4.drew.below LZ hb4.lt).frozen 0;have y5':=(hb5.drew.below LZ hb5.lt).cell 0;have z5':=(hb5.drew.below LZ hb5.lt).frozen 0;have y6':=(hb6.drew.below LZ hb6.lt).cell 0;have z6':=(hb6.drew.below LZ hb6.lt).frozen 0)
  all_goals(obtain⟨hKe,W4,hW4,q4,q5,q6,p6,p8,pF,pb,pk⟩:=Uz hn0 hB hF hbel Yu hb4 hb5 hb6 (by omega) o8 hK ho6 LZ)
  all_goals gi_wp2
  all_goals refine⟨by simp, .inl ⟨_,_,rfl,run_takeDeferred hKe, ?_⟩⟩
  all_goals rw[<-hW4]
  all_goals(have t4:=q4.cell 0;have t5:=q5.cell 0;have t6:=q6.cell 0)
  all_goals refine⟨.tuple #[.slice A6 s0.length c6, .slice A8 li.length c8, .int .i64 0],by simp[results,Tryz.f166,go_sem,t4,t5,t6], ?_⟩
  all_goals(rw[HRR.out];exact⟨_,_,rfl,by rw[hn0];exact p6,by rw[hn0];exact p8,pF,pb,pk⟩)
 case stop=>
  rintro Dd k pre W hDd ⟨hpx,Dj,hF,hDj⟩ ⟨rfl,hC⟩ hK
  obtain⟨pre',x,rfl,hok,herr,hb6⟩:=hC.last
  obtain⟨rest,hTr⟩:=hpx
  have hrest:rest= []:=afc.out (pre'.map (·.1)) x.1 rest (by rw[<-hTr];simp) herr
  rw[hrest,List.append_nil]at hTr
  have hDD:=hDj hTr
  subst hDD
  have hRR:R=([], [],x.1.2.2):=by
   rw[HR.out]
   unfold zH
   have hfind:T.find? (fun y=>decide (y.2.2≠0))=some x.1:=by
    rw[<-hTr,List.map_append,List.find?_append,List.find?_eq_none.2]
    ·simp[herr]
    ·intro y hy
     obtain⟨z,hz,rfl⟩:=List.mem_map.1 hy
     simp[hok z hz]
   rw[hfind]
  have HRR:=Lib.hid hRR
  clear hRR
  have hg:=grownBy_putObj' W Dd (.deferred none)
  have hr:=QD hK rfl
  have q4:=fC hC.b4 hg hr
  have q5:=fC hC.b5 hg hr
  have q6:=fC hb6 hg hr
  have t4:=q4.cell 0
  have t5:=q5.cell 0
  have t6:=q6.cell 0
  have pF:=hF.dX (tN W Dd _ (.deferred none) hK rfl rfl)
  have pb:Below B w (W.putObj Dd (.deferred none)):=hC.below.grown hg (by have:=hC.below.size;omega) (fun r e=>by cases e;omega)
  have pk:Kept w (W.putObj Dd (.deferred none)):=fun g t cs h h1 h2=>fC (hC.kept g t cs h h1 h2) hg hr
  gi_wp2
  refine⟨by simp, .inl ⟨_,_,rfl,run_takeDeferred hK, ?_⟩⟩
  refine⟨.tuple #[.slice none 0 0, .slice none 0 0, .int .i64 x.1.2.2],by simp[results,Tryz.f166,go_sem,t4,t5,t6], ?_⟩
  rw[HRR.out]
  exact⟨_,_,rfl,Own.nil_ _ _,LO.nil_ _ _,pF,pb,pk⟩
end Go.Proofs.YteppebbmnojapaaGreatDoor
