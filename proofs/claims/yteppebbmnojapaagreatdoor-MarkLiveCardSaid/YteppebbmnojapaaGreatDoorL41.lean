/- Part of this proof. -/
import Derived.LaidMore
import Derived.Lay
import Derived.OpenShut
import Derived.Test.YteppebbmnojapaaGreatDoorL40
import Derived.Test.YteppebbmnojapaaGreatDoorRows
set_option maxRecDepth 100000
set_option maxHeartbeats 8000000
namespace Go.Proofs.YteppebbmnojapaaGreatDoor
open Go.RowKit Go.Shelf
theorem O7(fp:Value)(A1 A2:Option Addr)(c1 c2:Nat)(l:List Run)(ids:List Int)(hl:l.length<=100000)(hi:ids.length<=100000)(w:World)(h1:RS w w.heap.size A1 l)(h2:LS aV w w.heap.size A2 ids)(hbad:¬ids.Nodup\/(ids.length:Int)<pg l):
  Calls Tryz.prog 34 #[fp, .slice A1 l.length c1, .slice A2 ids.length c2] w fun e w'=>e= .returned (.tuple #[.int .i64 0, .int .i64 1])/\Below w.heap.size w w':=by
 have hv:=fun W=>Bz A2 ids.length c2 W
 have hs:=fun Bn W hr hb=>DN A2 c2 Bn ids hi W hr hb
 have hsl:=tK ids
 have hc:=fun base v W (ho:LO aV 3 W base v (nD ids))=>zG ho (by rw[hsl];exact hi)
 have hsh:=Dp.xC ids
 have hcl:(Lib.compact (nD ids)).length<ids.length ↔ ¬ids.Nodup:=hsh
 have hp:=fun W hr=>EL xJ A1 c1 l W hr (by omega)
 unfold AL at hp
 generalize Lib.compact (nD ids)=cm at*
 generalize nD ids=sd at*
 generalize pg l=P at*
 have HV:=Lib.hid hv
 have HS:=Lib.hid hs
 have HC:=Lib.hid hc
 have HP:=Lib.hid hp
 clear hv hs hc hp hsh
 by_cases hnd:ids.Nodup
 ·have hq0:¬cm.length<ids.length:=fun h=>hcl.1 h hnd
  have hq:decide (cm.length<ids.length)=false:=by simpa using hq0
  have hq2:decide ((ids.length:Int)<P)=true:=by
   rcases hbad with h | h
   ·exact absurd hnd h
   ·simpa using h
  clear hbad hcl hnd hsl
  go_enter Tryz.func34,Tryz.ntmps34
  go_wp2_with fail
  refine Calls.mono (HV.out _) ?_
  rintro e w1 ⟨rfl,rfl⟩
  go_wp2_with fail
  have hb0:Below w.heap.size w (w.alloc (.cells #[.slice A2 ids.length c2] 49)):=(Below.refl _ w).alloc (Nat.le_refl _) _
  refine Calls.mono (HS.out _ _ (h2.up hb0) (Blk.new w _ _)) ?_
  rintro e w2 ⟨v,rfl,ho,hb2⟩
  have hbw2:=hb0.trans (hb2.mono hb0.size)
  go_wp2_with fail
  refine Calls.mono (HC.out _ _ _ ho) ?_
  rintro e w3 ⟨⟨A3,c3,rfl⟩,hb3⟩
  have hbw3:=hbw2.trans (hb3.mono hb0.size)
  go_wp2_with fail
  refine Calls.mono (HP.out _ ((h1.below hbw3).more hbw3.size)) ?_
  rintro e w4 ⟨rfl,hb4⟩
  have kJ:=hbw3.trans (hb4.mono hbw3.size)
  go_wp2
  go_ret2
  exact⟨rfl,kJ⟩
 ·have hq0:cm.length<ids.length:=hcl.2 hnd
  have hq:decide (cm.length<ids.length)=true:=by simpa using hq0
  clear hbad hcl hnd hsl
  go_enter Tryz.func34,Tryz.ntmps34
  go_wp2_with fail
  refine Calls.mono (HV.out _) ?_
  rintro e w1 ⟨rfl,rfl⟩
  go_wp2_with fail
  have hb0:Below w.heap.size w (w.alloc (.cells #[.slice A2 ids.length c2] 49)):=(Below.refl _ w).alloc (Nat.le_refl _) _
  refine Calls.mono (HS.out _ _ (h2.up hb0) (Blk.new w _ _)) ?_
  rintro e w2 ⟨v,rfl,ho,hb2⟩
  have hbw2:=hb0.trans (hb2.mono hb0.size)
  go_wp2_with fail
  refine Calls.mono (HC.out _ _ _ ho) ?_
  rintro e w3 ⟨⟨A3,c3,rfl⟩,hb3⟩
  have hbw3:=hbw2.trans (hb3.mono hb0.size)
  go_wp2
  go_ret2
  exact⟨rfl,hbw3⟩
theorem LS.QE{w w':World}{base:Nat}{v:Value}{l:List Run}(h:Own w base v l)(hk:Kept w w'):Own w' base v l:=by
 rcases h with⟨h3,h4 | ⟨g,cap,cur,hv,hb,hh,r⟩⟩
 ·exact⟨h3, .inl h4⟩
 ·exact⟨h3, .inr ⟨g,cap,cur,hv,hb,hk g _ _ hh (by decide) (by decide),r⟩⟩
def aa4(B f d k:Nat)(x:Int × Int)(D':Dk)(w:World)(e:Ending)(w':World):Prop:=e= .returned (.tuple #[.int .i64 x.1, .int .i64 x.2])/\FAt w' B f d k D'/\Below B w w'/\Kept w w'
theorem Yv(D:Dk)(s:List Run)(ids:List Int)(j:Nat)(hj:j<ids.length):xE D s (ids.drop j)=match Cp.body ((ids.drop (j+1)).headD 0) (s.take 29)with
  |none=>(40,D)
  |some b=>if D.jc ids[j] b=0 then xE (D.dW ids[j] 3 b) (s.drop 29) (ids.drop (j+1))else(D.jc ids[j] b,D.dW ids[j] 3 b):=by
 rw[List.drop_eq_getElem_cons hj];rfl
theorem UC{B f d k N:Nat}{D:Dk}(A1 A2:Option Addr)(c1 c2:Nat)(l:List Run)(ids:List Int)(hl:l.length<=1000)(hi:ids.length<=1000)(w:World)(h:FAt w B f d k D)(hL:Lim D N)(hN:N+1000<1000000000000)(hk:k+1000<maxLen)(hT:HT w)(hB0:1<B)(hB:B<=w.heap.size)
  (h1:RS w w.heap.size A1 l) (h2:∀W,Below B w W->Kept w W->LS aV W W.heap.size A2 ids) (hnd:ids.Nodup) (hln:pg l<=(ids.length:Int)):
  Calls Tryz.prog 34 #[.pointer (some ⟨f,0,none⟩), .slice A1 l.length c1, .slice A2 ids.length c2] w (aa4 B f d (k+ids.length) (DR ids (xE D (Rp.norm l) ids).1) (xE D (Rp.norm l) ids).2 w):=by
 have hv:=fun W=>Bz A2 ids.length c2 W
 have hs:=fun Bn W hr hb=>DN A2 c2 Bn ids (by omega) W hr hb
 have hsl:=tK ids
 have hc:=fun base v W (ho:LO aV 3 W base v (nD ids))=>zG ho (by rw[hsl];omega)
 have hcl:(Lib.compact (nD ids)).length<ids.length ↔ ¬ids.Nodup:=Dp.xC ids
 have hp:=fun W hr=>EL xJ A1 c1 l W hr (by omega)
 have hnm:=fun W hr=>kH A1 c1 l W hr (by omega)
 have hnl:=bC l
 unfold AL at hp
 generalize Lib.compact (nD ids)=cm at*
 generalize nD ids=sd at*
 generalize Rp.norm l=s0 at*
 generalize hX:xE D s0 ids=X
 obtain⟨xe,D'⟩:=X
 have HX:=Lib.hid hX
 clear hX
 show Calls _ _ _ _ (aa4 B f d (k+ids.length) (DR ids xe) D' w)
 have hq0:¬cm.length<ids.length:=fun h=>hcl.1 h hnd
 have hq:decide (cm.length<ids.length)=false:=by simpa using hq0
 generalize pg l=P at*
 have hq2:decide ((ids.length:Int)<P)=false:=by simp;omega
 have HV:=Lib.hid hv
 have HS:=Lib.hid hs
 have HC:=Lib.hid hc
 have HP:=Lib.hid hp
 have HNm:=Lib.hid hnm
 clear hv hs hc hp hcl hnd hsl hnm hq0 hln
 go_enter Tryz.func34,Tryz.ntmps34
 go_wp2_with fail
 refine Calls.mono (HV.out _) ?_
 rintro e w1 ⟨rfl,rfl⟩
 go_wp2_with fail
 have hb0:Below w.heap.size w (w.alloc (.cells #[.slice A2 ids.length c2] 49)):=(Below.refl _ w).alloc (Nat.le_refl _) _
 refine Calls.mono (HS.out _ _ (h2 _ (hb0.mono hB) (Kept.below hb0)) (Blk.new w _ _)) ?_
 rintro e w2 ⟨v,rfl,ho,hb2⟩
 have hbw2:=hb0.trans (hb2.mono hb0.size)
 go_wp2_with fail
 refine Calls.mono (HC.out _ _ _ ho) ?_
 rintro e w3 ⟨⟨A3,c3,rfl⟩,hb3⟩
 have hbw3:=hbw2.trans (hb3.mono hb0.size)
 go_wp2_with fail
 refine Calls.mono (HP.out _ ((h1.below hbw3).more hbw3.size)) ?_
 rintro e w4 ⟨rfl,hb4⟩
 have kJ:=hbw3.trans (hb4.mono hbw3.size)
 go_wp2_with fail
 refine Calls.mono (Gj f _) ?_
 rintro e w5 ⟨rfl,rfl⟩
 go_wp2_with fail
 refine Calls.mono (HNm.out _ ((h1.below kJ).more kJ.size)) ?_
 intro e w6 h6
 obtain⟨A6,c6,rfl,ho6,hr6,hb6⟩:=h6.open_
 have qP:=kJ.trans (hb6.mono kJ.size)
 have ahj:Own w6 w.heap.size (.slice A6 s0.length c6) s0:=jw ho6 kJ.size
 have hc6:s0.length<=c6:=by
  rcases ho6.2 with⟨e,h0⟩ | ⟨g,cap,cur,e,_,_,hn,_⟩
  ·omega
  ·injection e with _ _ e3;omega
 go_wp2_with fail
 go_loopw [9,38] (fun v i wr=>∃ (j:Nat) (Dj:Dk) (sj:List Run) (A:Option Addr) (c:Nat),j<=ids.length/\i= .int .i64 j/\v= .slice A sj.length c/\sj.length<=c/\sj.length<=1000/\(∀W,RS W W.heap.size A6 s0->RS W W.heap.size A sj)/\Own wr w.heap.size (.slice A6 s0.length c6) s0/\FAt wr B f d (k+j) Dj/\Lim Dj (N+j)/\Hid ((xe,D')=xE Dj sj (ids.drop j))/\Below B w wr/\Kept w wr) (fun _ i _=>ids.length-(intOf i).toNat)
 case atStart=>exact⟨0,D,s0,A6,c6,by omega,rfl,rfl,hc6,by omega,fun _ h=>h,ahj,h.keep qP,hL,Lib.hid HX.out.symm,qP.mono hB,Kept.below qP⟩
 case round=>
  obtain⟨j,Dj,sj,A,c,hj,rfl,rfl,hc,hs9,hRS,hO,hF,hLm,hrun,hBr,hK⟩:=hrel
  have hBs:=Nat.le_trans hB hBr.size
  have hrs:RS wr wr.heap.size A sj:=hRS wr (Own.rs (show Own _ _ _ s0 from hO))
  have hls:=h2 wr hBr hK
  by_cases hlt:j<ids.length
  ·have zV:=Yv Dj sj ids j hlt
   rw[<-hrun.out]at zV
   have htl:(sj.take 29).length<=sj.length:=by rw[List.length_take];omega
   have hmi:min (29:Int) (sj.length:Int)=((sj.take 29).length:Int):=by rw[List.length_take];omega
   have aif:(sj.take 29).length<=29:=by rw[List.length_take];omega
   have afe:sj.drop 29=sj.drop (sj.take 29).length:=by
    rw[List.length_take]
    by_cases h29:29<=sj.length
    ·rw[Nat.min_eq_left h29]
    ·rw[Nat.min_eq_right (by omega),List.drop_of_length_le (Nat.le_refl _),List.drop_of_length_le (by omega)]
   have hrt:=hrs.mG 29
   generalize sj.take 29=t at*
   have Htd:=Lib.hid afe
   clear afe
   have ahw:=fun W=>Uy A sj.length c t.length (t.length:Int) rfl (by omega) W
   have ahx:=fun W=>Ux A sj.length c t.length (t.length:Int) rfl htl W
   have hbd:=fun(x:Int) W (hh:Below wr.heap.size wr W)=>Jg x A c t W ((hrt.below hh).more hh.size) (by omega)
   obtain⟨b2,o2,rfl,hb2,g0⟩:=hls.int hlt
   have hg1:∀h1:j+1<ids.length,wr.cell? ⟨b2,o2+(j+1),none⟩=some (.int .i64 ids[j+1]):=by
    intro h1
    obtain⟨b3,o3,e3,_,g3⟩:=hls.int h1
    injection e3 with e3
    injection e3 with e3 e4
    subst e3 e4
    exact g3
   have ac3:∀h1:j+1<ids.length,(ids.drop (j+1)).headD 0=ids[j+1]:=fun h1=>by rw[List.drop_eq_getElem_cons h1];rfl
   have ac4:¬j+1<ids.length->(ids.drop (j+1)).headD 0=0:=fun h1=>by rw[List.drop_of_length_le (by omega)];rfl
   by_cases h1:j+1<ids.length
   ·have g1:=hg1 h1
    rw[ac3 h1]at zV
    have hst:=Lib.hid zV
    have HBD:=Lib.hid hbd
    clear zV hbd hg1 ac3 ac4
    generalize ids[j]=y at*
    generalize ids[j+1]=x at*
    go_wp2_with fail
    refine Calls.mono (HBD.out x _ (Below.refl _ _)) ?_
    rintro e w7 ⟨rfl,hb7⟩
    cases hbo:Cp.body x t with
    |none=>
     have hxs:=hst.out
     rw[hbo]at hxs
     have hxe:xe=40:=congrArg Prod.fst hxs
     have hxd:D'=Dj:=congrArg Prod.snd hxs
     clear hxs hbo
     subst hxe hxd
     simp only[yP]
     go_wp2
     go_ret2
     exact⟨rfl,(hF.keep hb7).mono (by omega),hBr.trans (hb7.mono hBs),hK.trans (Kept.below hb7)⟩
    |some b=>
     have hxs:=hst.out
     rw[hbo]at hxs
     have HXS:=Lib.hid hxs
     clear hxs hbo
     simp only[yP]
     have hF7:=hF.keep hb7
     have hB7:=hBr.trans (hb7.mono hBs)
     have hK7:=hK.trans (Kept.below hb7)
     go_wp2_with fail
     refine Calls.mono (Bd hF7 (hLm.fine (by omega)) (by omega) (hT.below hB7 hB0) (Nat.le_trans hB hB7.size) y 3 (by decide) b) ?_
     have hLp:=hLm.dW y 3 b
     generalize Dj.jc y b=er at*
     generalize Dj.dW y 3 b=Dp at*
     rintro e w8 ⟨rfl,hF8,hb8,hk8⟩
     have hB8:=hB7.trans hb8
     have hK8:=hK7.trans hk8
     by_cases her:er=0
     ·have hxs:=HXS.out
      rw[if_pos her]at hxs
      have HXN:=Lib.hid hxs
      clear hxs HXS
      subst her
      go_wp2
      go_roundw
      case rel=>exact⟨j+1,Dp,sj.drop t.length,_,_,by omega,by go_num,by rw[List.length_drop],by rw[List.length_drop];omega,by rw[List.length_drop];omega,fun W hW=>(hRS W hW).cut htl hc,LS.QE (LS.QE hO (Kept.below hb7)) hk8,hF8,hLp,Lib.hid (by rw[HXN.out,Htd.out]),hB8,hK8⟩
      case measure=>simp[intOf];omega
     ·have hxs:=HXS.out
      rw[if_neg her]at hxs
      have hxe:xe=er:=congrArg Prod.fst hxs
      have hxd:D'=Dp:=congrArg Prod.snd hxs
      clear hxs HXS
      subst hxe hxd
      have hqe:(xe != 0)=true:=by simpa using her
      go_wp2
      go_ret2
      exact⟨by unfold DR;rw[if_neg her];rfl,hF8.mono (by omega),hB8,hK8⟩
   ·rw[ac4 h1]at zV
    have hst:=Lib.hid zV
    have HBD:=Lib.hid hbd
    clear zV hbd hg1 ac3 ac4
    generalize ids[j]=y at*
    go_wp2_with fail
    refine Calls.mono (HBD.out 0 _ (Below.refl _ _)) ?_
    rintro e w7 ⟨rfl,hb7⟩
    cases hbo:Cp.body 0 t with
    |none=>
     have hxs:=hst.out
     rw[hbo]at hxs
     have hxe:xe=40:=congrArg Prod.fst hxs
     have hxd:D'=Dj:=congrArg Prod.snd hxs
     clear hxs hbo
     subst hxe hxd
     simp only[yP]
     go_wp2
     go_ret2
     exact⟨rfl,(hF.keep hb7).mono (by omega),hBr.trans (hb7.mono hBs),hK.trans (Kept.below hb7)⟩
    |some b=>
     have hxs:=hst.out
     rw[hbo]at hxs
     have HXS:=Lib.hid hxs
     clear hxs hbo
     simp only[yP]
     have hF7:=hF.keep hb7
     have hB7:=hBr.trans (hb7.mono hBs)
     have hK7:=hK.trans (Kept.below hb7)
     go_wp2_with fail
     refine Calls.mono (Bd hF7 (hLm.fine (by omega)) (by omega) (hT.below hB7 hB0) (Nat.le_trans hB hB7.size) y 3 (by decide) b) ?_
     have hLp:=hLm.dW y 3 b
     generalize Dj.jc y b=er at*
     generalize Dj.dW y 3 b=Dp at*
     rintro e w8 ⟨rfl,hF8,hb8,hk8⟩
     have hB8:=hB7.trans hb8
     have hK8:=hK7.trans hk8
     by_cases her:er=0
     ·have hxs:=HXS.out
      rw[if_pos her]at hxs
      have HXN:=Lib.hid hxs
      clear hxs HXS
      subst her
      go_wp2
      go_roundw
      case rel=>exact⟨j+1,Dp,sj.drop t.length,_,_,by omega,by go_num,by rw[List.length_drop],by rw[List.length_drop];omega,by rw[List.length_drop];omega,fun W hW=>(hRS W hW).cut htl hc,LS.QE (LS.QE hO (Kept.below hb7)) hk8,hF8,hLp,Lib.hid (by rw[HXN.out,Htd.out]),hB8,hK8⟩
      case measure=>simp[intOf];omega
     ·have hxs:=HXS.out
      rw[if_neg her]at hxs
      have hxe:xe=er:=congrArg Prod.fst hxs
      have hxd:D'=Dp:=congrArg Prod.snd hxs
      clear hxs HXS
      subst hxe hxd
      have hqe:(xe != 0)=true:=by simpa using her
      go_wp2
      go_ret2
      exact⟨by unfold DR;rw[if_neg her];rfl,hF8.mono (by omega),hB8,hK8⟩
  ·obtain rfl:j=ids.length:=by omega
   have zV:=hrun.out
   rw[List.drop_of_length_le (Nat.le_refl _)]at zV
   have hxe:xe=0:=congrArg Prod.fst zV
   have hxd:D'=Dj:=congrArg Prod.snd zV
   clear zV
   subst hxe hxd
   by_cases hz:ids.length=0
   ·have ahk:ids= []:=List.eq_nil_of_length_eq_zero hz
    have hq5:((ids.length:Int)==0)=true:=by rw[hz];rfl
    go_wp2
    go_ret2
    exact⟨by subst ahk;rfl,hF,hBr,hK⟩
   ·have hq5:((ids.length:Int)==0)=false:=by rw[beq_eq_false_iff_ne];omega
    have hq6:decide ((ids.length:Int)=0)=false:=decide_eq_false (by omega)
    obtain⟨b2,o2,rfl,hb2,g0⟩:=hls.int (k:=0) (by omega)
    have hhd:ids.headD 0=ids[0]:=by
     cases ids with
     |nil=>exact absurd rfl hz
     |cons a r=>rfl
    have HHD:=Lib.hid hhd
    clear hhd
    rw[Nat.add_zero]at g0
    have hpos:0<ids.length:=by omega
    generalize ids[0]=y at*
    go_wp2
    go_ret2
    exact⟨by unfold DR;rw[if_pos rfl,HHD.out];rfl,hF,hBr,hK⟩
theorem UD{next:Int}{l:List Run}(h1:Cp.fits 4 next=true)(h2:l.length<=29)(h3:l.all Cp.jQ=true):∃b,Cp.body next l=some b:=by
 unfold Cp.body
 rw[h1,decide_eq_true h2,h3]
 exact⟨_,if_pos rfl⟩
def vU(c:Int->Option (Nat × Bs)):List Run->List Int->Prop
 |_, []=>True
 |s,id::r=>(∃b,c id=some (3,b)/\Cp.body (r.headD 0) (s.take 29)=some b)/\vU c (s.drop 29) r
def EG:List Run->List Int->List Lnk
 |_, []=> []
 |s,id::r=>(id,s.take 29,0)::EG (s.drop 29) r
theorem Yw{n:Nat}{id next:Int}{o:Option (Nat × Bs)}{l:List Run}{b:Bs}(hid:aS n id=false)(ho:o=some (3,b))(hb:Cp.body next l=some b):fo n false id o=((id,l,0),next):=by
 have hp:some (next,l)=Cp.prog b:=by rw[Cp.Pz];exact(Cp.Nh hb).symm
 have hf:frB n false id 3 o=(b,0):=by
  unfold frB
  rw[hid,ho]
  rfl
 unfold fo
 rw[hf]
 exact wM hp
theorem UE{n:Nat}{c:Int->Option (Nat × Bs)} :∀ (ids:List Int) (s:List Run) (met:List Int) (k:Nat),vU c s ids->(∀id∈ids,aS n id=false)->ids.Nodup->(∀id∈ids,id ∉ met)->ids.length<=k->
  chL n false c k met (ids.headD 0)=EG s ids:=by
 intro ids
 induction ids with
 |nil=>intro s met k _ _ _ _ _;exact rV _ _
 |cons id r ih=>
  intro s met k hc hv hd hm hk
  rw[List.length_cons]at hk
  obtain⟨k',rfl⟩:∃k',k=k'+1:=⟨k-1,by omega⟩
  rw[List.nodup_cons]at hd
  obtain⟨⟨b,h1,h2⟩,h3⟩:=hc
  have hid:=hv id (List.mem_cons_self ..)
  have h0:id≠0:=by
   have hb:¬id<2/\¬ (n:Int)<=id:=by simpa[aS]using hid
   omega
  have hfo:=Yw (next:=r.headD 0) hid h1 h2
  show chL n false c (k'+1) met id=_
  rw[pV h0 (hm id (List.mem_cons_self ..)) hfo.symm]
  show(id,s.take 29,(0:Int))::(if(0:Int)=0 then chL n false c k' (id::met) (r.headD 0)else [])=(id,s.take 29,0)::EG (s.drop 29) r
  rw[if_pos rfl,ih (s.drop 29) (id::met) k' h3 (fun x hx=>hv x (List.mem_cons_of_mem _ hx)) hd.2 (fun x hx=>by
   rw[List.mem_cons,not_or]
   exact⟨fun e=>hd.1 (e ▸ hx),hm x (List.mem_cons_of_mem _ hx)⟩) (by omega)]
theorem L6:∀ (ids:List Int) (s:List Run),(EG s ids).map (fun y=>y.1)=ids
 | [],_=>rfl
 |id::r,s=>by rw[EG,List.map_cons,L6 r]
theorem Gs:∀ (ids:List Int) (s:List Run),s.length<=29*ids.length->(EG s ids).flatMap (fun y=>y.2.1)=s
 | [],s,h=>by
  have:s= []:=List.eq_nil_of_length_eq_zero (by simpa using h)
  rw[this];rfl
 |id::r,s,h=>by
  rw[EG,List.flatMap_cons,Gs r (s.drop 29) (by rw[List.length_drop];rw[List.length_cons]at h;omega)]
  exact List.take_append_drop 29 s
theorem QF:∀ (ids:List Int) (s:List Run),(EG s ids).find? (fun y=>decide (y.2.2≠0))=none
 | [],_=>rfl
 |id::r,s=>by
  rw[EG,List.find?_cons]
  exact QF r _
theorem Gt(l:List Run):Rp.norm (Rp.norm l)=Rp.norm l:=by
 have h1:=Rp.dw l
 have h2:=Rp.dw (Rp.norm l)
 refine Rp.iL _ _ 0 0 h2.1 h1.1 (fun n=> ?_)
 rw[h2.2 n]
 exact⟨fun h=>h.1,fun h=>⟨h,h1.1.ge h,h1.1.le h⟩⟩
theorem O8{ids:List Int}{s:List Run}(h:s.length<=29*ids.length):zH (EG s ids)=(Rp.norm s,ids,0):=by
 unfold zH
 rw[QF,Gs ids s h,L6]
theorem L8:∀ (l:List Run) (lo:Int),Rp.Canon lo l->∀y∈l,y.1<=y.2
 | [],_,_,_,hy=>by cases hy
 |r::l,lo,h,y,hy=>by
  rcases List.mem_cons.1 hy with rfl | hy
  ·exact h.2.1
  ·exact L8 l _ h.2.2.2 y hy
theorem O9(l:List Run):(Rp.norm l).all Cp.jQ=true:=by
 rw[List.all_eq_true]
 intro y hy
 have:=oC _ 0 (Int.le_refl _) (Rp.dw l).1 y hy
 have hle:=L8 _ 0 (Rp.dw l).1 y hy
 unfold InR at this
 unfold Cp.jQ Cp.fits
 simp
 omega
theorem Ph{n:Nat}{c:Int->Option (Nat × Bs)}{ids:List Int}{l:List Run}(hc:vU c (Rp.norm l) ids)(hv:∀id∈ids,aS n id=false)(hd:ids.Nodup)(hn:ids.length<=n+1)(hl:pg l<=(ids.length:Int)):
  zH (chL n false c (n+1) [] (ids.headD 0))=(Rp.norm l,ids,0):=by
 rw[UE ids _ [] (n+1) hc hv hd (fun _ _ h=>by cases h) hn,O8 (by unfold pg at hl;omega),Gt]
end Go.Proofs.YteppebbmnojapaaGreatDoor
namespace Go.Proofs.YteppebbmnojapaaGreatDoor
open Go.RowKit Go.Shelf Go.Maps
theorem Dk.UF{D:Dk}{n:Nat}{id:Int}{kind:Nat}{b:Bs}(hs:D.sure.length=n)(hl:D.left= -1)(hd:D.down=false)(hid:aS n id=false)(hb:b.length<=240):(D.dW id kind b).pend=D.pend++ [(id,Pg.page id.toNat kind b)]:=by
 unfold Dk.dW
 rw[hs,hid,if_neg (by decide),if_neg (by omega),hd,if_neg (by decide)]
 unfold Dk.wrote
 rw[hl,if_neg (by decide),if_neg (by decide)]
 rfl
section
variable {F F':aT}{n N r:Nat}{disk:Tp.aA}{w w':World}{i:Int}{l:List Run}
structure ChE(F:aT)(n:Nat)(disk:Tp.aA)(i:Int)(l:List Run)(N r:Nat)(w:World)(F':aT)(w':World):Prop where
 same:F'.B=F.B/\F'.f=F.f/\F'.d=F.d/\F'.k=F.k+1
 ready:gY F' n (hole disk i) (N+1) r w'
 page:∃c,DkC F'.D n c/\vU c (Rp.norm l) [i]
 below:Below F.B w w'
 kept:Kept w w'
theorem Yx(h:gY F n disk N r w)(hk:F.k+1000<maxLen)(hN:N<1000000)(hi:2<=i/\i<n)(A1 A2:Option Addr)(c1 c2 b2:Nat)(hl:l.length<=90000)(hnn:Rp.norm l=l)(h1:RS w w.heap.size A1 l)(h2:LO aV 3 w b2 (.slice A2 1 c2) [i]):
  Calls Tryz.prog 34 #[.pointer (some ⟨F.f,0,none⟩), .slice A1 l.length c1, .slice A2 1 c2] w fun e w'=>
   (1<pg l/\e= .returned (.tuple #[.int .i64 0, .int .i64 1])/\Below w.heap.size w w')\/
   (pg l<=1/\e= .returned (.tuple #[.int .i64 i, .int .i64 0])/\∃F',ChE F n disk i l N r w F' w'):=by
 by_cases hp:pg l<=1
 case neg=>
  refine(O7 (.pointer (some ⟨F.f,0,none⟩)) A1 A2 c1 c2 l [i] (by omega) (by simp) w h1 h2.ls (.inr (by show((1:Nat):Int)<pg l;omega))).mono ?_
  rintro e w' ⟨rfl,hb⟩
  exact .inl ⟨by omega,rfl,hb⟩
 have hl:l.length<=1000:=by
  unfold pg at hp
  rw[hnn]at hp
  omega
 obtain⟨⟨hn,⟨c,d1,d2⟩,hw,hpd⟩,⟨R,r1,r2,hA⟩,hT,b0,bw⟩:=h
 have hno:aS n i=false:=by unfold aS;simp;omega
 have hC:=d1.rd R
 obtain⟨b,hb⟩:=UD (next:=0) (l:=(Rp.norm l).take 29) (by decide) (by rw[List.length_take];omega) (by
  have:=O9 l
  rw[List.all_eq_true]at this ⊢
  exact fun x hx=>this x (List.mem_of_mem_take hx))
 have hbl:b.length<=240:=by
  have:=Cp.kK hb
  rw[List.length_take]at this
  omega
 obtain⟨e1,e2,e3⟩:=hC.dW (kind:=3) hno (by decide) hbl
 have e4:=(hC.ok.dW (kind:=3) hno (by decide) hbl).2.2.2
 have e5:=Dk.UF (D:= { F.D with reads:=R }) (kind:=3) hC.ok.size hC.ok.left hC.ok.down hno hbl
 have hrun:xE { F.D with reads:=R } (Rp.norm l) [i]=(0,({ F.D with reads:=R } :Dk).dW i 3 b):=by
  unfold xE
  rw[show([]:List Int).headD 0=0 from rfl,hb]
  simp only
  rw[if_pos e1]
  rfl
 have hL:Lim { F.D with reads:=R } 900000001000:=⟨by show F.D.sure.length<=_;rw[hC.ok.size];exact hn,⟨hw.1,by show F.D.writes<=_;omega⟩,⟨r1,by show R<=_;omega⟩,by show -1<=F.D.left/\F.D.left<=_;rw[d1.ok.left];decide,by show F.D.pend.length<=_;omega⟩
 refine(UC A1 A2 c1 c2 l [i] hl (by simp) w hA.fat hL (by decide) hk hT b0 bw h1 (fun W _ hK=>(h2.kept hK (by decide) (by decide)).ls) (by simp) hp).mono ?_
 rintro e w' ⟨rfl,q1,q2,q3⟩
 rw[hrun]at q1 ⊢
 obtain⟨s,m,pv,Dm,q4⟩:=q1.open_
 obtain⟨D',hD'⟩:∃D',D'=({ F.D with reads:=R } :Dk).dW i 3 b:=⟨_,rfl⟩
 simp only at q4
 rw[<-hD']at e2 e3 e4 e5 q4
 have h5:({ D' with reads:=R } :Dk)=D':=by
  have:D'.reads=R:=e4
  cases D'
  simp only at this
  subst this
  rfl
 refine .inr ⟨hp,rfl, { F with k:=F.k+1,s:=s,m:=m,pv:=pv,Dm:=Dm,D:=D' },⟨⟨rfl,rfl,rfl,rfl⟩,⟨⟨hn,⟨_,e2,fun id x hx=> ?_⟩, ?_, ?_⟩,⟨R,r1,r2, ?_⟩,X5 hT b0 q2,b0,Nat.le_trans bw q2.size⟩,⟨_,e2,⟨b, ?_,hb⟩,trivial⟩,q2,q3⟩⟩
 ·unfold hole at hx
  split at hx
  ·cases hx
  ·rename_i hne
   obtain⟨g1,g2,g3⟩:=d2 id x hx
   refine⟨g1,g2, ?_⟩
   unfold N8
   rw[if_neg hne]
   exact g3
 ·show 0<=D'.writes/\D'.writes<=((N+1:Nat):Int)
  have:D'.writes=F.D.writes+1:=e3
  omega
 ·show D'.pend.length<=N+1
  rw[e5,List.length_append]
  show F.D.pend.length+1<=N+1
  omega
 ·show FDt w' F.B F.f F.d (F.k+1) { D' with reads:=R } s m pv Dm
  rw[h5];exact q4
 ·unfold N8
  rw[if_pos rfl]
end
theorem UG{n:Nat}{down:Bool}{pg:Int->Option (Nat × Bs)}(k:Nat):∀ (D:Dk) (met:List Int) (id:Int),∃R:Int,chD n down pg k D met id= { D with reads:=R } /\D.reads<=R/\R<=D.reads+k:=by
 induction k with
 |zero=>intro D met id;exact⟨D.reads,rfl,Int.le_refl _,by omega⟩
 |succ k ih=>
  intro D met id
  by_cases h0:id=0
  ·subst h0;rw[xG];exact⟨D.reads,rfl,Int.le_refl _,by omega⟩
  ·by_cases hm:id∈met
   ·rw[AB h0 hm];exact⟨D.reads,rfl,Int.le_refl _,by omega⟩
   ·rw[DV h0 hm rfl]
    have hr:∃R:Int,D.bG id= { D with reads:=R } /\D.reads<=R/\R<=D.reads+1:=by
     unfold Dk.bG
     split
     ·exact⟨D.reads,rfl,Int.le_refl _,by omega⟩
     ·split
      ·exact⟨D.reads,rfl,Int.le_refl _,by omega⟩
      ·exact⟨D.reads+1,rfl,by omega,Int.le_refl _⟩
    obtain⟨R1,e1,e2,e3⟩:=hr
    rw[e1]
    split
    ·obtain⟨R,q1,q2,q3⟩:=ih { D with reads:=R1 } (id::met) (fo n down id (pg id)).2
     exact⟨R,q1,Int.le_trans e2 q2,by simp only at q3;omega⟩
    ·exact⟨R1,rfl,e2,by omega⟩
section
variable {F F':aT}{n N r:Nat}{disk:Tp.aA}{w w':World}{i:Int}{l:List Run}
structure CrE(F:aT)(n:Nat)(disk:Tp.aA)(i:Int)(l:List Run)(N r:Nat)(w:World)(F':aT)(w':World):Prop where
 same:F'.B=F.B/\F'.f=F.f/\F'.d=F.d/\F'.k=F.k
 ready:gY F' n disk N r w'
 page:∃c,DkC F'.D n c/\vU c (Rp.norm l) [i]
 below:Below F.B w w'
 kept:Kept w w'
theorem Yy(h:gY F n disk N (r+(n+1)) w)(hN:N<1000000)(hi:2<=i/\i<n)(hp:pg l<=1)(hpg:∃c,DkC F.D n c/\vU c (Rp.norm l) [i]):
  Calls Tryz.prog 166 #[.pointer (some ⟨F.f,0,none⟩), .int .i64 i] w fun e w'=>∃v u F',e= .returned (.tuple #[v,u, .int .i64 0])/\Own w' w.heap.size v (Rp.norm l)/\LO aV 3 w' w.heap.size u [i]/\CrE F n disk i l N r w F' w':=by
 obtain⟨⟨hn,⟨c0,d1,d2⟩,hw,hpd⟩,⟨R,r1,r2,hA⟩,hT,b0,bw⟩:=h
 obtain⟨c,g1,g2⟩:=hpg
 have hno:aS n i=false:=by unfold aS;simp;omega
 have hC:=g1.rd R
 have hO:=hC.ok
 have hL:Lim { F.D with reads:=R } 900000001000:=⟨by show F.D.sure.length<=_;rw[hO.size];exact hn,⟨hw.1,by show F.D.writes<=_;omega⟩,⟨r1,by show R<=_;omega⟩,by show -1<=F.D.left/\F.D.left<=_;rw[d1.ok.left];decide,by show F.D.pend.length<=_;omega⟩
 have hwf:(Lit.int .i64 i).wf=true:=(show fJ i by unfold fJ;omega).wf
 refine(UA hA.fat hL (by decide) hT b0 bw c (fun id h1 h2=>hO.page id (by rw[<-hO.size];exact h1)) i hwf).mono ?_
 rintro e w' ⟨v,u,h1,h2,h3,h4,h5,h6⟩
 obtain⟨R',q1,q2,q3⟩:=UG (n:=({ F.D with reads:=R } :Dk).sure.length) (down:=({ F.D with reads:=R } :Dk).down) (pg:=c) (({ F.D with reads:=R } :Dk).sure.length+1) { F.D with reads:=R } [] i
 have hR:zH (chL ({ F.D with reads:=R } :Dk).sure.length ({ F.D with reads:=R } :Dk).down c (({ F.D with reads:=R } :Dk).sure.length+1) [] i)=(Rp.norm l, [i],0):=by
  rw[hO.size,hO.down]
  exact Ph g2 (fun x hx=>by rw[List.mem_singleton.1 hx];exact hno) (by simp) (by simp) (by simpa using hp)
 rw[hR]at h1 h2 h3
 rw[q1]at h4
 obtain⟨s,m,pv,Dm,q4⟩:=h4.open_
 have hs:({ F.D with reads:=R } :Dk).sure.length=n:=hO.size
 rw[hs]at q3
 simp only at q2 q3
 exact⟨v,u, { F with s:=s,m:=m,pv:=pv,Dm:=Dm },h1,h2,h3,⟨⟨rfl,rfl,rfl,rfl⟩,⟨⟨hn,⟨c0,d1,d2⟩,hw,hpd⟩,⟨R',by omega,by omega,q4⟩,X5 hT b0 h5,b0,Nat.le_trans bw h5.size⟩,⟨c,g1,g2⟩,h5,h6⟩⟩
end
structure LvR(n:Nat)(disk:Tp.aA)(N r:Nat)(P cat i:Int)(l:List Run)(all:List Int)(b f0:Nat)(w:World):Prop where
 ex:∃F:aT,F.f=f0/\F.B=b/\gY F n disk N r w/\∃c,DkC F.D n c/\vU c (Rp.norm l) [i]
 low:vO disk [] P
 p:2<=P/\P<=n
 i2:2<=i/\i<n
 pg1:pg l<=1
 n16:N<1000000
 ver:∃vs:List Ct.Ver,(∀v∈vs,v.Ok)/\vs.length<=10000/\(∃tok ids,Tp.bH disk cat (vs.map Ct.kX) tok ids/\tok<=480/\ids.length<=600)/\AllOf disk (cat::vs.map (fun v=>(v.root:Int))) all
 len:all.length<=10000
section
variable {n N r b f0:Nat}{disk:Tp.aA}{P cat i ep nx:Int}{l:List Run}{all:List Int}{w w':World}
def aff(n:Nat)(disk:Tp.aA)(N r:Nat)(P cat i:Int)(l:List Run)(all:List Int)(b f0:Nat)(w:World)(e:Ending)(w':World):Prop:=
 ∃v u,e= .returned (.tuple #[v,u, .int .i64 0])/\Own w' w.heap.size v (Rp.union (Rp.norm (all.map dJ)) [(i,i)])/\Own w' w.heap.size u (Rp.norm l)/\LvR n disk N r P cat i l all b f0 w'/\Below b w w'/\Kept w w'
theorem Yz(h:LvR n disk N (r+40000) P cat i l all b f0 w):
  Calls Tryz.prog 14 #[.pointer (some ⟨f0,0,none⟩), .slice none 0 0, .int .i64 P] w fun e w1=>∃t,e= .returned (.pointer (some ⟨t,0,none⟩))/\Below w.heap.size w w1/\
   Calls Tryz.prog 28 #[.pointer (some ⟨t,0,none⟩), .int .i64 cat] w1 fun e w2=>∃v,e= .returned (.tuple #[v, .int .i64 0])/\Own w2 w1.heap.size v (Rp.norm (all.map dJ))/\LvR n disk N r P cat i l all b f0 w2/\Below b w w2/\Kept w w2:=by
 obtain⟨⟨F,rfl,rfl,hR,hpg⟩,h1,h2,h3,h4,h5,⟨vs,v1,v2,⟨tok,ids,v3,v4,v5⟩,v6⟩,h7⟩:=h
 have hn:n<=16384:=hR.on.hn
 refine(Dt hR h5 none 0 [] P P (by unfold iD;omega) RS.nil_ (by simp) h1).mono ?_
 rintro e w1 ⟨t,m,rfl,hT,⟨s1,s2,s3⟩,hb⟩
 have hvw:∀x y,disk x=some y->(Tp.start [] P).view disk x=disk x:=fun x y hy=>Tp.jV hT.mem.ap (hT.on.page x y hy).2.1
 have X9:∀ {root:Int} {es:List Ent} {tok:Nat} {ids:List Int},Tp.bH disk root es tok ids->Tp.bH ((Tp.start [] P).view disk) root es tok ids:=fun {root es tok ids} hv=>hv.congr fun x hx=>by
  obtain⟨y,hy⟩:=hv.some_ x hx
  exact hvw x y hy
 have hall:AllOf ((Tp.start [] P).view disk) (cat::vs.map (fun v=>(v.root:Int))) all:=⟨fun x hx=>by
  obtain⟨root,es,tok,ids,q1,q2,q3,q4⟩:=v6.inn x hx
  exact⟨root,es,tok,ids,q1,X9 q2,q3,q4⟩,v6.root⟩
 have hpos:∀x∈all,0<x:=fun x hx=>by
  obtain⟨root,es,tok,ids,q1,q2,q3,q4⟩:=hall.inn x hx
  obtain⟨y,hy⟩:=q2.some_ x q3
  exact Aw hT hy
 have hM:=tq F hT.low.1 hT.low.2.1 s3 n (Rp.minus [(2,P-1)] []) disk
 obtain⟨R0,_,_,hA0⟩:=hR.file
 refine⟨t,rfl,hb, ?_⟩
 refine(yD (root:=cat) (r:=r) vs v1 v2 (r+2*all.length+2*ids.length) (hT.less (by omega)) s3 (fun u W' hon=> ?_) hall hpos (by omega)).mono ?_
 ·have:=DJ hM (X9 v3) (yG hT) (by omega) ⟨#[86]⟩ ⟨#[87]⟩ (r+2*all.length) W' hon
  rwa [Ct.yE]at this
 ·rintro e w2 ⟨v,rfl,q1,q2,q3⟩
  have hdd:=hA0.disk.self
  have hbB:F.B<=F.d:=hA0.disk.le.1
  have hBl:Below F.B w w2:=by
   have hb1:=hb.mono hR.bw
   refine hb1.trans (q3.low (Nat.le_trans hR.bw hb1.size) fun k hk=> ?_)
   rcases hk with rfl | rfl | rfl
   ·have:=hR.bw;omega
   ·have:=hR.bw;omega
   ·exact hbB
  refine⟨v,rfl,q1,⟨⟨F,rfl,rfl,⟨hR.on,q2.file,q2.ht,hR.b0,Nat.le_trans hR.bw hBl.size⟩,hpg⟩,h1,h2,h3,h4,h5,⟨vs,v1,v2,⟨tok,ids,v3,v4,v5⟩,v6⟩,h7⟩,hBl,fun g ty cs hB n1 n2=> ?_⟩
  refine q3.blk (hB.below hb hB.lt) fun hk=> ?_
  have hgl:=hB.lt
  rcases hk with rfl | rfl | rfl
  ·omega
  ·omega
  ·exact Blk.ne_ hB hdd n1 rfl
theorem LvR.keep{w1:World}(h:LvR n disk N r P cat i l all b f0 w)(hb:Below w.heap.size w w1):LvR n disk N r P cat i l all b f0 w1:=by
 obtain⟨⟨F,e1,e2,hR,hpg⟩,h1,h2,h3,h4,h5,h6,h7⟩:=h
 exact⟨⟨F,e1,e2,hR.below hb,hpg⟩,h1,h2,h3,h4,h5,h6,h7⟩
theorem UH(h:LvR n disk N (r+20000) P cat i l all b f0 w):
  Calls Tryz.prog 166 #[.pointer (some ⟨f0,0,none⟩), .int .i64 i] w fun e w'=>∃v u,e= .returned (.tuple #[v,u, .int .i64 0])/\Own w' w.heap.size v (Rp.norm l)/\LO aV 3 w' w.heap.size u [i]/\LvR n disk N r P cat i l all b f0 w'/\Below b w w'/\Kept w w':=by
 obtain⟨⟨F,rfl,rfl,hR,hpg⟩,h1,h2,h3,h4,h5,h6,h7⟩:=h
 have hn:n<=16384:=hR.on.hn
 have hR2:gY F n disk N (r+(n+1)) w:=by
  obtain⟨q1,⟨R,r1,r2,r3⟩,q3,q4,q5⟩:=hR
  exact⟨q1,⟨R,r1,by omega,r3⟩,q3,q4,q5⟩
 refine(Yy hR2 h5 h3 h4 hpg).mono ?_
 rintro e w' ⟨v,u,F',rfl,q1,q2,q3⟩
 obtain⟨s1,s2,s3,s4⟩:=q3.same
 exact⟨v,u,rfl,q1,q2,⟨⟨F',s2,s1,q3.ready,q3.page⟩,h1,h2,h3,h4,h5,h6,h7⟩,q3.below,q3.kept⟩
theorem LvR.YA(h:LvR n disk N r P cat i l all b f0 w):b<=w.heap.size:=by
 obtain⟨⟨F,e1,e2,hR,hpg⟩,_⟩:=h
 exact e2 ▸ hR.bw
theorem tV(h:LvR n disk N (r+60000) P cat i l all b f0 w):
  Calls Tryz.prog 95 #[.pointer (some ⟨f0,0,none⟩), .agg #[.int .i64 ep, .int .i64 P, .int .i64 cat, .int .i64 i, .int .i64 nx]] w (aff n disk N r P cat i l all b f0 w):=by
 have hbx:=Blk.new w 68 #[.int .i64 ep, .int .i64 P, .int .i64 cat, .int .i64 i, .int .i64 nx]
 have b0:Below w.heap.size w (w.alloc (.cells #[.int .i64 ep, .int .i64 P, .int .i64 cat, .int .i64 i, .int .i64 nx] 68)):=(Below.refl _ w).alloc (Nat.le_refl _) _
 have hbw:=h.YA
 have hH:=h.keep b0
 have HLN:=Lib.hid h.len
 have HV:=Lib.hid (fun W hW=>Yz (r:=r+20000) (P:=P) (cat:=cat) (i:=i) (l:=l) (all:=all) (b:=b) (f0:=f0) (N:=N) (n:=n) (disk:=disk) (w:=W) hW)
 have HCR:=Lib.hid (fun W hW=>UH (r:=r) (P:=P) (cat:=cat) (i:=i) (l:=l) (all:=all) (b:=b) (f0:=f0) (N:=N) (n:=n) (disk:=disk) (w:=W) hW)
 have HB0:=Lib.hid b0
 have HBX:=Lib.hid hbx
 have HH:=Lib.hid hH
 have lx:=hbx.lt
 clear h b0 hbx hH
 go_enter Tryz.func95,Tryz.ntmps95
 go_wp2_with fail
 generalize hw:(w.alloc (.cells #[.int .i64 ep, .int .i64 P, .int .i64 cat, .int .i64 i, .int .i64 nx] 68))=w0 at*
 clear hw
 have hS0:w0.drew.cell? ⟨w.heap.size,1,none⟩=some (.int .i64 P)/\w0.drew.cell? ⟨w.heap.size,2,none⟩=some (.int .i64 cat):=⟨HBX.out.cell 1,HBX.out.cell 2⟩
 have HVV:=Lib.hid (HV.out w0.drew (HH.out.keep (Below.refl _ _).drew))
 have HK1:Hid (∀W,Below w0.heap.size w0.drew W->W.cell? ⟨w.heap.size,1,none⟩=some (.int .i64 P)/\W.cell? ⟨w.heap.size,2,none⟩=some (.int .i64 cat)):=Lib.hid fun W hW=>⟨(hW.cell (p:=⟨w.heap.size,1,none⟩) lx).trans hS0.1,(hW.cell (p:=⟨w.heap.size,2,none⟩) lx).trans hS0.2⟩
 have HK2:Hid (∀W,Kept w0.drew W->W.cell? ⟨w.heap.size,1,none⟩=some (.int .i64 P)/\W.cell? ⟨w.heap.size,2,none⟩=some (.int .i64 cat)):=Lib.hid fun W hW=>⟨(hW _ _ _ HBX.out (by decide) (by decide)).cell 1,(hW _ _ _ HBX.out (by decide) (by decide)).cell 2⟩
 go_region_held3 (fun W=>W.cell? ⟨w.heap.size,1,none⟩=some (.int .i64 P)/\W.cell? ⟨w.heap.size,2,none⟩=some (.int .i64 cat)) (first | exact hS0 | exact hS1 | exact hS2)
  (first
  |(go_at_call 14;refine Calls.mono HVV.out ?_;rintro e w1 ⟨t,rfl,hb1,hq1⟩;have hS1:=HK1.out w1 hb1;have HQ1:=Lib.hid hq1)
  |(go_at_call 28;refine Calls.mono HQ1.out ?_;rintro e w2 ⟨v,rfl,hv,hlv,hbl,hkp⟩;have hS2:=HK2.out w2 hkp))
 all_goals
  have ahl:=Lib.hid (hkp _ _ _ HBX.out.drew (by decide) (by decide))
  have c3:=ahl.out.cell 3
  have HW2:Hid (Below b w w2):=Lib.hid ((HB0.out.drew.mono hbw).trans hbl)
  have HV2:=Lib.hid (Own.lower hv (Nat.le_trans HB0.out.size hb1.size))
  have HKP:Hid (Kept w w2):=Lib.hid fun g ty cs hB n1 n2=>hkp g ty cs ((hB.below HB0.out hB.lt).drew) n1 n2
  have HLV:=Lib.hid hlv
  obtain⟨A1,k1,rfl⟩:=hv.form
  clear hv hlv hbl hkp hb1 hq1 HQ1 hS0 hS1 hS2 HVV HK1 HK2 HV HH HBX lx
  go_wp2_with fail
  refine Calls.mono (HCR.out w2 HLV.out) ?_
  rintro e w3 ⟨v3,u3,rfl,ho3,hl3,hlv3,afg,hkp3⟩
  have HU3:=Lib.hid (Own.lower ho3 HW2.out.size)
  have HV3:=Lib.hid (ng HV2.out hkp3)
  have afh:=Lib.hid hlv3
  have HW3:=Lib.hid (HW2.out.trans (afg.mono (Nat.le_refl _)))
  have afi:Hid (Kept w w3):=Lib.hid (HKP.out.trans hkp3)
  obtain⟨A3,k3,rfl⟩:=hl3.form
  obtain⟨bi,oi,rfl,hbi,gi⟩:=hl3.ls.int (k:=0) (by simp)
  have afj:=bC (all.map dJ)
  rw[List.length_map]at afj
  have hlen:=HLN.out
  obtain⟨L1,hL1⟩:∃x,x=Rp.norm (all.map dJ):=⟨_,rfl⟩
  obtain⟨L2,hL2⟩:∃x,x=Rp.norm l:=⟨_,rfl⟩
  have HL1:=Lib.hid hL1
  have HL2:=Lib.hid hL2
  rw[<-hL1]at HV3 afj ⊢
  rw[<-hL2]at HU3
  rw[show([i]:List Int).length=1 from rfl]
  have hA:=add_any A1 k1 L1 i w3 HV3.out.rs (by omega)
  have UJ:=Lib.hid hA
  have g0:w3.cell? ⟨bi,oi,none⟩=some (.int .i64 i):=gi
  obtain⟨A4,k4,rfl⟩:=HU3.out.form
  clear hL1 hL2 ho3 hl3 hlv3 afg hkp3 c3 gi hA HV2 HLV HW2 HKP HCR
  go_wp2
  go_loopw [4,39] (fun s4 s39 wr=>(s39= .int .i64 0/\s4= .slice A1 L1.length k1/\wr=w3)\/(s39= .int .i64 1/\∃ (A5:Option Addr) (k5:Nat),s4= .slice A5 (Rp.union L1 [(i,i)]).length k5/\Hid (Own wr w.heap.size (.slice A5 (Rp.union L1 [(i,i)]).length k5) (Rp.union L1 [(i,i)]))/\Hid (Below w3.heap.size w3 wr))) (fun _ s39 _=>1-(intOf s39).toNat)
  case atStart=>exact .inl ⟨rfl,rfl,rfl⟩
  case round=>
   rcases hrel with⟨rfl,rfl,rfl⟩ | ⟨rfl,A5,k5,rfl,HO5,HB5⟩
   ·go_wp2_with fail
    refine Calls.mono UJ.out ?_
    intro e w5 he
    obtain⟨A5,k5,rfl,ho5,_,b5⟩:=he.open_
    have HO5:=Lib.hid (ho5.lower HW3.out.size)
    have HB5:=Lib.hid b5
    clear he ho5 b5 UJ
    go_wp2
    go_roundw
    case rel=>exact .inr ⟨rfl,A5,k5,rfl,HO5,HB5⟩
    case measure=>decide
   ·have ahm:=Lib.hid (afh.out.keep HB5.out)
    have HU5:=Lib.hid (Own.below HU3.out HB5.out)
    have HW5:=Lib.hid (HW3.out.trans (HB5.out.mono (Nat.le_trans hbw (by have:=HW3.out.size;exact this))))
    have HK5:Hid (Kept w wr):=Lib.hid (afi.out.trans (Kept.below HB5.out))
    clear afh HU3 HW3 afi HB5 UJ
    go_wp2
    go_ret3
    exact⟨_,_,rfl,HL1.out ▸ HO5.out,HL2.out ▸ HU5.out,ahm.out,HW5.out,HK5.out⟩
end
section
variable {n N r b f0:Nat}{disk:Tp.aA}{P cat i ep nx:Int}{l:List Run}{all:List Int}{w w':World}
def nJ(all:List Int)(i:Int):List Run:=Rp.union (Rp.norm (all.map dJ)) [(i,i)]
def YB(n:Nat)(disk:Tp.aA)(N r:Nat)(P cat i:Int)(l:List Run)(all:List Int)(b f0:Nat)(w:World)(e:Ending)(w':World):Prop:=
 ∃v,e= .returned (.tuple #[v, .int .i64 0])/\Own w' w.heap.size v (nJ all i)/\LvR n disk N r P cat i l all b f0 w'/\Below b w w'/\Kept w w'
theorem L9(h:LvR n disk N (r+60000) P cat i l all b f0 w):
  Calls Tryz.prog 35 #[.pointer (some ⟨f0,0,none⟩), .agg #[.int .i64 ep, .int .i64 P, .int .i64 cat, .int .i64 i, .int .i64 nx]] w (YB n disk N r P cat i l all b f0 w):=by
 have hbx:=Blk.new w 68 #[.int .i64 ep, .int .i64 P, .int .i64 cat, .int .i64 i, .int .i64 nx]
 have b0:Below w.heap.size w (w.alloc (.cells #[.int .i64 ep, .int .i64 P, .int .i64 cat, .int .i64 i, .int .i64 nx] 68)):=(Below.refl _ w).alloc (Nat.le_refl _) _
 have hbw:=h.YA
 have HC:=Lib.hid (tV (ep:=ep) (nx:=nx) (h.keep b0))
 have HB0:=Lib.hid b0
 have c0:=hbx.cell 0
 have c1:=hbx.cell 1
 have c2:=hbx.cell 2
 have c3:=hbx.cell 3
 have c4:=hbx.cell 4
 clear h b0 hbx
 go_enter Tryz.func35,Tryz.ntmps35
 go_wp2_with fail
 refine Calls.mono HC.out ?_
 rintro e w2 ⟨v,u,rfl,h1,h2,h3,h4,h5⟩
 have H1:=Lib.hid (Own.lower h1 HB0.out.size)
 have H3:=Lib.hid h3
 have H4:=Lib.hid ((HB0.out.mono hbw).trans h4)
 have H5:Hid (Kept w w2):=Lib.hid ((Kept.below HB0.out).trans h5)
 clear h1 h2 h3 h4 h5 HC c0 c1 c2 c3 c4
 go_wp2
 go_ret2
 exact⟨_,rfl,H1.out,H3.out,H4.out,H5.out⟩
def iW(L1 L2:List Run)(P:Int):Bool:=(((Rp.minus [(2,P-1)] (Rp.union L1 L2)).length:Int)+((Rp.meet [(2,P-1)] (Rp.meet L1 L2)).length:Int))==0
def Mc(n:Nat)(disk:Tp.aA)(N r:Nat)(P cat i:Int)(l:List Run)(all:List Int)(b f0:Nat)(w:World)(e:Ending)(w':World):Prop:=
 e= .returned (.tuple #[.bool (iW (nJ all i) (Rp.norm l) P), .int .i64 0])/\LvR n disk N r P cat i l all b f0 w'/\Below b w w'/\Kept w w'
theorem zJ(hl:l.length<=10000)(h:LvR n disk N (r+60000) P cat i l all b f0 w):
  Calls Tryz.prog 37 #[.pointer (some ⟨f0,0,none⟩), .agg #[.int .i64 ep, .int .i64 P, .int .i64 cat, .int .i64 i, .int .i64 nx]] w (Mc n disk N r P cat i l all b f0 w):=by
 have hbx:=Blk.new w 68 #[.int .i64 ep, .int .i64 P, .int .i64 cat, .int .i64 i, .int .i64 nx]
 have b0:Below w.heap.size w (w.alloc (.cells #[.int .i64 ep, .int .i64 P, .int .i64 cat, .int .i64 i, .int .i64 nx] 68)):=(Below.refl _ w).alloc (Nat.le_refl _) _
 have hbw:=h.YA
 have hlen:=h.len
 have hP:=h.p
 have hn:n<=16384:=by obtain⟨⟨F,_,_,hR,_⟩,_⟩:=h;exact hR.on.hn
 have HC:=Lib.hid (tV (ep:=ep) (nx:=nx) (h.keep b0))
 have HB0:=Lib.hid b0
 have HBX:=Lib.hid hbx
 have c0:=hbx.cell 0
 have c1:=hbx.cell 1
 have c2:=hbx.cell 2
 have c3:=hbx.cell 3
 have c4:=hbx.cell 4
 clear h b0 hbx
 go_enter Tryz.func37,Tryz.ntmps37
 go_wp2_with fail
 refine Calls.mono HC.out ?_
 rintro e w2 ⟨v,u,rfl,h1,h2,h3,h4,h5⟩
 have hn1:=bC (all.map dJ)
 rw[List.length_map]at hn1
 have hn2:=bC l
 have hn3:(nJ all i).length<=10001:=by
  unfold nJ
  have:=bC (Rp.norm (all.map dJ)++ [(i,i)])
  rw[List.length_append]at this
  exact Nat.le_trans this (by simp only[List.length_cons,List.length_nil];omega)
 have h1:Own w2 _ v (nJ all i):=h1
 obtain⟨A1,k1,rfl⟩:=h1.form
 obtain⟨A2,k2,rfl⟩:=h2.form
 have hB2:=h5 _ _ _ HBX.out (by decide) (by decide)
 have q1:w2.cell? ⟨w.heap.size,1,none⟩=some (.int .i64 P):=hB2.cell 1
 have hwrap:IntKind.i64.wrap (P-1)=P-1:=IntWalk.i64_in _ (by omega)
 have HZ2:=Lib.hid h4.size
 have H3:=Lib.hid h3
 have H4:=Lib.hid ((HB0.out.mono hbw).trans h4)
 have H5:Hid (Kept w w2):=Lib.hid ((Kept.below HB0.out).trans h5)
 obtain⟨L1,hL1⟩:∃x,x=nJ all i:=⟨_,rfl⟩
 obtain⟨L2,hL2⟩:∃x,x=Rp.norm l:=⟨_,rfl⟩
 rw[<-hL1]at h1 hn3 ⊢
 rw[<-hL2]at h2 hn2 ⊢
 have oh:Hid (∀w',Below w2.heap.size w2 w'->Mc n disk N r P cat i l all b f0 w (.returned (.tuple #[.bool (iW L1 L2 P), .int .i64 0])) w'):=Lib.hid fun w' hb=>⟨by rw[hL1,hL2],H3.out.keep hb,H4.out.trans (hb.mono (Nat.le_trans (Nat.le_trans hbw HB0.out.size) (HZ2.out))),H5.out.trans (Kept.below hb)⟩
 have b3:Below w2.heap.size w2 (w2.alloc (.cells #[.int .i64 2, .int .i64 (P-1)] 64)):=(Below.refl _ w2).alloc (Nat.le_refl _) _
 have HA3:=Lib.hid (RS.single w2 2 (P-1) 64)
 have HO1:=Lib.hid (Own.below h1 b3)
 have HO2:=Lib.hid (Own.below h2 b3)
 have HU:=Lib.hid (sF A1 A2 k1 k2 L1 L2 _ HO1.out.rs HO2.out.rs (by omega) (by omega))
 clear h1 h2 h3 h4 h5 H3 H4 H5 hL1 hL2 HC c0 c1 c2 c3 c4 hB2
 have hr1:=aX L1
 have hr2:=aX L2
 have hnu:=bC (L1++L2)
 rw[List.length_append]at hnu
 have hmt:(Rp.meet L1 L2).length<=30000:=by
  unfold Rp.meet
  have h1:=aX (Rp.union (Rp.rest L1) (Rp.rest L2))
  have h2:(Rp.union (Rp.rest L1) (Rp.rest L2)).length<=29000:=by
   unfold Rp.union
   have:=bC (Rp.rest L1++Rp.rest L2)
   rw[List.length_append]at this
   omega
  omega
 have hun:(Rp.union L1 L2).length<=30000:=by
  unfold Rp.union
  omega
 obtain⟨LU,hLU⟩:∃x,x=Rp.union L1 L2:=⟨_,rfl⟩
 obtain⟨LM,hLM⟩:∃x,x=Rp.meet L1 L2:=⟨_,rfl⟩
 rw[<-hLU]at HU hun
 rw[<-hLM]at hmt
 have HLU:=Lib.hid hLU
 have HLM:=Lib.hid hLM
 clear hLU hLM hr1 hr2 hnu
 go_wp2_with fail
 refine Calls.mono HU.out ?_
 intro e w4 he
 obtain⟨A4,k4,rfl,ho4,_,b4⟩:=he.open_
 have hb4:=b3.trans (b4.mono b3.size)
 have HA4:=Lib.hid ((HA3.out.below b4).more b4.size)
 have HO1:=Lib.hid (Own.below HO1.out b4)
 have HO2:=Lib.hid (Own.below HO2.out b4)
 have HMI:=Lib.hid (sH _ A4 1 k4 [(2,P-1)] LU w4 HA4.out ho4.rs (by simp) (by omega))
 clear he ho4 b4 HA3 HU b3
 go_wp2_with fail
 refine Calls.mono HMI.out ?_
 intro e w5 he
 obtain⟨A5,k5,rfl,ho5,_,b5⟩:=he.open_
 have hb5:=hb4.trans (b5.mono hb4.size)
 have HA5:=Lib.hid ((HA4.out.below b5).more b5.size)
 have HO1:=Lib.hid (Own.below HO1.out b5)
 have HO2:=Lib.hid (Own.below HO2.out b5)
 have HME:=Lib.hid (oD A1 A2 k1 k2 L1 L2 w5 HO1.out.rs HO2.out.rs (by omega) (by omega))
 rw[<-HLM.out]at HME
 obtain⟨LR,hLR⟩:∃x,x=Rp.minus [(2,P-1)] LU:=⟨_,rfl⟩
 have hlr:LR.length<=90000:=by
  rw[hLR]
  unfold Rp.minus Rp.meet
  have h1:=aX (Rp.union (Rp.rest [(2,P-1)]) (Rp.rest (Rp.rest LU)))
  have h2:(Rp.union (Rp.rest [(2,P-1)]) (Rp.rest (Rp.rest LU))).length<=40000:=by
   unfold Rp.union
   have h3:=bC (Rp.rest [(2,P-1)]++Rp.rest (Rp.rest LU))
   rw[List.length_append]at h3
   have h4:=aX (Rp.rest LU)
   have h5:=aX LU
   have h6:=aX [(2,P-1)]
   simp only[List.length_cons,List.length_nil]at h6
   omega
  omega
 rw[<-hLR]
 have HLR:=Lib.hid hLR
 clear he ho5 b5 HMI hb4 HA4 hLR
 go_wp2_with fail
 refine Calls.mono HME.out ?_
 intro e w6 he
 obtain⟨A6,k6,rfl,ho6,_,b6⟩:=he.open_
 have hb6:=hb5.trans (b6.mono hb5.size)
 have HA6:=Lib.hid ((HA5.out.below b6).more b6.size)
 have HM2:=Lib.hid (oD _ A6 1 k6 [(2,P-1)] LM w6 HA6.out ho6.rs (by simp) (by omega))
 obtain⟨LB,hLB⟩:∃x,x=Rp.meet [(2,P-1)] LM:=⟨_,rfl⟩
 have hlb:LB.length<=90000:=by
  rw[hLB]
  unfold Rp.meet
  have h1:=aX (Rp.union (Rp.rest [(2,P-1)]) (Rp.rest LM))
  have h2:(Rp.union (Rp.rest [(2,P-1)]) (Rp.rest LM)).length<=40000:=by
   unfold Rp.union
   have h3:=bC (Rp.rest [(2,P-1)]++Rp.rest LM)
   rw[List.length_append]at h3
   have h5:=aX LM
   have h6:=aX [(2,P-1)]
   simp only[List.length_cons,List.length_nil]at h6
   omega
  omega
 rw[<-hLB]at HM2
 have HLB:=Lib.hid hLB
 clear he ho6 b6 HME hb5 HA5 HO1 HO2 hLB
 go_wp2_with fail
 refine Calls.mono HM2.out ?_
 intro e w7 he
 obtain⟨A7,k7,rfl,ho7,_,b7⟩:=he.open_
 have hb7:=hb6.trans (b7.mono hb6.size)
 have HF:=Lib.hid (oh.out _ hb7)
 clear he ho7 b7 HM2 hb6 HA6 hb7 oh
 have hws:IntKind.i64.wrap ((LR.length:Int)+(LB.length:Int))=(LR.length:Int)+(LB.length:Int):=IntWalk.i64_in _ (by omega)
 have hwb:iW L1 L2 P=(((LR.length:Int)+(LB.length:Int))==0):=by
  unfold iW
  rw[HLR.out,HLB.out,HLU.out,HLM.out]
 rw[hwb]at HF
 clear hwb
 go_wp2
 go_ret2
 exact HF.out
end
end Go.Proofs.YteppebbmnojapaaGreatDoor
namespace Rp
theorem Md{l:List Run}(h:Canon 0 l)(hn:∀n,¬Mem l n):l= []:=by
 cases l with
 |nil=>rfl
 |cons r l=>
  exfalso
  obtain⟨h1,h2,_⟩:=h
  exact hn r.1 ⟨r,List.mem_cons_self,by omega,by omega⟩
end Rp
namespace Go.Proofs.YteppebbmnojapaaGreatDoor
open Go.RowKit Go.Shelf Go.Maps
theorem Pj{L1 L2:List Run}{P:Int}(hP:2<=P/\P<=16384):iW L1 L2 P=true ↔ ∀i:Int,2<=i->i<P->Rp.has L1 i≠Rp.has L2 i:=by
 have hm:∀n,Rp.Mem [(2,P-1)] n ↔ 2<=n/\n<=P-1:=fun n=>by simp[Rp.Mem]
 have hh:∀ (L:List Run) (i:Int),2<=i->i<P->(Rp.has L i=true ↔ Rp.Mem L i):=fun L i h1 h2=>by
  rw[Rp.zX]
  exact⟨fun a=>a.2.2,fun a=>⟨by omega,by unfold Rp.Most;omega,a⟩⟩
 have e1:iW L1 L2 P=true ↔ (Rp.minus [(2,P-1)] (Rp.union L1 L2)= []/\Rp.meet [(2,P-1)] (Rp.meet L1 L2)= []):=by
  unfold iW
  rw[beq_iff_eq, <-List.length_eq_zero_iff, <-List.length_eq_zero_iff]
  omega
 rw[e1]
 constructor
 ·rintro⟨h1,h2⟩ i hi1 hi2 he
  by_cases hA:Rp.Mem L1 i
  ·have hB:Rp.Mem L2 i:=(hh L2 i hi1 hi2).1 (he ▸ (hh L1 i hi1 hi2).2 hA)
   have:=((Rp.lS [(2,P-1)] (Rp.meet L1 L2)).2 i).2 ⟨by omega,by unfold Rp.Most;omega,(hm i).2 ⟨hi1,by omega⟩,((Rp.lS L1 L2).2 i).2 ⟨by omega,by unfold Rp.Most;omega,hA,hB⟩⟩
   rw[h2]at this
   obtain⟨_,hx,_⟩:=this
   exact absurd hx List.not_mem_nil
  ·have hB:¬Rp.Mem L2 i:=fun hB=>hA ((hh L1 i hi1 hi2).1 (he.symm ▸ (hh L2 i hi1 hi2).2 hB))
   have:=((Rp.iY [(2,P-1)] (Rp.union L1 L2)).2 i).2 ⟨by omega,by unfold Rp.Most;omega,(hm i).2 ⟨hi1,by omega⟩,fun hu=>by
    rcases((Rp.qJ L1 L2).2 i).1 hu with⟨a | a,_⟩
    ·exact hA a
    ·exact hB a⟩
   rw[h1]at this
   obtain⟨_,hx,_⟩:=this
   exact absurd hx List.not_mem_nil
 ·intro h
  refine⟨Rp.Md (Rp.iY _ _).1 fun i hi=> ?_,Rp.Md (Rp.lS _ _).1 fun i hi=> ?_⟩
  ·obtain⟨a1,a2,a3,a4⟩:=((Rp.iY _ _).2 i).1 hi
   obtain⟨b1,b2⟩:=(hm i).1 a3
   refine h i b1 (by omega) ?_
   have n1:¬Rp.Mem L1 i:=fun a=>a4 (((Rp.qJ L1 L2).2 i).2 ⟨.inl a,a1,a2⟩)
   have n2:¬Rp.Mem L2 i:=fun a=>a4 (((Rp.qJ L1 L2).2 i).2 ⟨.inr a,a1,a2⟩)
   rw[Bool.eq_false_iff.2 fun a=>n1 ((hh L1 i b1 (by omega)).1 a),Bool.eq_false_iff.2 fun a=>n2 ((hh L2 i b1 (by omega)).1 a)]
  ·obtain⟨a1,a2,a3,a4⟩:=((Rp.lS _ _).2 i).1 hi
   obtain⟨b1,b2⟩:=(hm i).1 a3
   obtain⟨_,_,c1,c2⟩:=((Rp.lS _ _).2 i).1 a4
   refine h i b1 (by omega) ?_
   rw[(hh L1 i b1 (by omega)).2 c1,(hh L2 i b1 (by omega)).2 c2]
theorem YC(r:Run)(l:List Run)(n:Int)(hn:0<=n/\n<=4294967295):Rp.has (r::l) n=((decide (r.1<=n)&&decide (n<=r.2))||Rp.has l n):=by
 unfold Rp.has Rp.Most
 rw[List.any_cons,decide_eq_true hn.1,decide_eq_true hn.2]
 simp only[Bool.true_and]
theorem Me(A:Option Addr)(c:Nat)(l:List Run)(n:Int)(w:World)(hr:RS w w.heap.size A l)(hl:l.length<=1000000)(hn:0<=n/\n<=4294967295):
  Calls Tryz.prog 96 #[.slice A l.length c, .int .i64 n] w fun e w'=>e= .returned (.bool (Rp.has l n))/\Below w.heap.size w w':=by
 have HR:=Lib.hid hr
 have n0:(0:Int)<=n:=hn.1
 have n1:n<=4294967295:=hn.2
 clear hr
 go_enter Tryz.func96,Tryz.ntmps96
 go_wp2
 go_loopw [5] (fun s5 wr=>∃j:Nat,j<=l.length/\s5= .int .i64 j/\wr=w/\Hid (Rp.has l n=Rp.has (l.drop j) n)) (fun s5 _=>l.length-(intOf s5).toNat)
 case atStart=>exact⟨0,Nat.zero_le _,rfl,rfl,Lib.hid (by rw[List.drop_zero])⟩
 case round=>
  obtain⟨j,hj,rfl,rfl,HH⟩:=hrel
  by_cases hlt:j<l.length
  ·obtain⟨b,off,rfl,hb,k0,k1⟩:=HR.out.at_ hlt
   have hd:l.drop j=l[j]::l.drop (j+1):=List.drop_eq_getElem_cons hlt
   have hh:=HH.out
   rw[hd,YC _ _ _ hn]at hh
   generalize l[j]=q at*
   have HQ:=Lib.hid hh
   clear hh hd HH
   by_cases h1:q.1<=n
   ·by_cases h2:n<=q.2
    ·go_wp2
     go_ret
     exact⟨by rw[HQ.out,decide_eq_true h1,decide_eq_true h2];rfl,Below.refl _ _⟩
    ·go_wp2
     go_roundw
     case rel=>exact⟨j+1,hlt,by go_num,trivial,Lib.hid (by rw[HQ.out,decide_eq_false h2];simp)⟩
     case measure=>simp[intOf];omega
   ·go_wp2
    go_roundw
    case rel=>exact⟨j+1,hlt,by go_num,trivial,Lib.hid (by rw[HQ.out,decide_eq_false h1];simp)⟩
    case measure=>simp[intOf];omega
  ·have hjl:j=l.length:=by omega
   subst hjl
   have hh:=HH.out
   rw[List.drop_length]at hh
   have HQ:=Lib.hid hh
   clear hh HH
   go_wp2
   go_ret
   exact⟨by rw[HQ.out];unfold Rp.has;simp,Below.refl _ _⟩
theorem IK(A1 A2:Option Addr)(c1 c2:Nat)(L1 L2:List Run)(P:Int)(w:World)(h1:RS w w.heap.size A1 L1)(h2:RS w w.heap.size A2 L2)(hl1:L1.length<=1000000)(hl2:L2.length<=1000000)(hP:2<=P/\P<=16384):
  Calls Tryz.prog 38 #[.slice A1 L1.length c1, .slice A2 L2.length c2, .int .i64 P] w fun e w'=>e= .returned (.bool (iW L1 L2 P))/\Below w.heap.size w w':=by
 have HA:=Lib.hid (fun W n (hb:Below w.heap.size w W) hn=>Me A1 c1 L1 n W ((h1.below hb).more hb.size) hl1 hn)
 have HB:=Lib.hid (fun W n (hb:Below w.heap.size w W) hn=>Me A2 c2 L2 n W ((h2.below hb).more hb.size) hl2 hn)
 have HI:=Lib.hid (Pj (L1:=L1) (L2:=L2) hP)
 have p1:P<=16384:=hP.2
 clear h1 h2
 go_enter Tryz.func38,Tryz.ntmps38
 go_wp2
 go_loopw [7] (fun s7 wr=>∃j:Nat,2<=j/\(j:Int)<=P/\s7= .int .i64 j/\Hid (Below w.heap.size w wr)/\Hid (∀i:Int,2<=i->i<j->Rp.has L1 i≠Rp.has L2 i)) (fun s7 _=>16385-(intOf s7).toNat)
 case atStart=>exact⟨2,Nat.le_refl _,hP.1,rfl,Lib.hid (Below.refl _ _),Lib.hid fun i a1 a2=>by omega⟩
 case round=>
  obtain⟨j,hj2,hjP,rfl,HBL,HNE⟩:=hrel
  by_cases hlt:(j:Int)<P
  ·have HA1:=Lib.hid (HA.out wr j HBL.out (by omega))
   generalize hx:Rp.has L1 (j:Int)=x at*
   generalize hy:Rp.has L2 (j:Int)=y at*
   have HX:=Lib.hid hx
   have HY:=Lib.hid hy
   clear hx hy
   go_wp2_with fail
   refine Calls.mono HA1.out ?_
   rintro e w3 ⟨rfl,b3⟩
   have aas:=Lib.hid (HBL.out.trans (b3.mono HBL.out.size))
   have hB1:=HB.out w3 j aas.out (by omega)
   rw[HY.out]at hB1
   have HB1:=Lib.hid hB1
   clear hB1 b3 HA1 HBL
   go_wp2_with fail
   refine Calls.mono HB1.out ?_
   rintro e w4 ⟨rfl,b4⟩
   have aat:=Lib.hid (aas.out.trans (b4.mono aas.out.size))
   clear b4 HB1 aas
   have hfalse:x=y->iW L1 L2 P=false:=fun e=>Bool.eq_false_iff.2 fun a=>HI.out.1 a (j:Int) (by omega) hlt (HX.out.trans (e.trans HY.out.symm))
   have hnext:x≠y->∀i:Int,2<=i->i<((j+1:Nat):Int)->Rp.has L1 i≠Rp.has L2 i:=fun e i a1 a2=>by
    by_cases hij:i=(j:Int)
    ·subst hij
     rw[HX.out,HY.out];exact e
    ·exact HNE.out i a1 (by omega)
   have HFL:=Lib.hid hfalse
   have HNX:=Lib.hid hnext
   clear hfalse hnext HX HY HNE HI HA HB
   cases x with
   |true=>
    cases y with
    |true=>
     go_wp2
     go_ret
     exact⟨by rw[HFL.out trivial];rfl,aat.out⟩
    |false=>
     go_wp2
     go_roundw
     case rel=>exact⟨j+1,by omega,by omega,by go_num,aat,Lib.hid (HNX.out (by decide))⟩
     case measure=>simp[intOf];omega
   |false=>
    cases y with
    |true=>
     go_wp2
     go_roundw
     case rel=>exact⟨j+1,by omega,by omega,by go_num,aat,Lib.hid (HNX.out (by decide))⟩
     case measure=>simp[intOf];omega
    |false=>
     go_wp2
     go_ret
     exact⟨by rw[HFL.out trivial];rfl,aat.out⟩
  ·have aa5:iW L1 L2 P=true:=HI.out.2 fun i a1 a2=>HNE.out i a1 (by omega)
   have HTR:=Lib.hid aa5
   clear aa5 HNE HI HA HB
   go_wp2
   go_ret
   exact⟨by rw[HTR.out];rfl,HBL.out⟩
theorem vV{room:Int}{σ:Tp.Pst}(h:σ.pages<room):∃id σ',Tp.dF room σ=some (id,σ'):=by
 unfold Tp.dF
 cases hv:Tp.eY σ.free σ.pages room with
 |some o=>exact⟨_,_,rfl⟩
 |none=>
  exfalso
  unfold Tp.eY at hv
  cases hl:Rp.least σ.free with
  |some j=>rw[hl]at hv;cases hv
  |none=>
   rw[hl]at hv
   simp only at hv
   rw[if_neg (by omega)]at hv
   cases hv
section
variable {w0 W W':World}{f0 d0 N t u r:Nat}{disk:Tp.aA}{fl:List Run}{P:Int}{vs:List Ct.Ver}{rs all:List Int}{F:aT}{a:TAd}{root:Int}{σ:Tp.Pst}{ids:List Int}{tok:Nat}
theorem MB(h:LvA w0 f0 d0 N t u disk fl P vs rs F a root σ ids tok 280000 all W):
  Calls Tryz.prog 28 #[.pointer (some ⟨t,0,none⟩), .int .i64 root] W fun e w'=>∃v,e= .returned (.tuple #[v, .int .i64 0])/\Own w' W.heap.size v (Rp.norm (all.map dJ))/\LvA w0 f0 d0 N t u disk fl P vs rs F a root σ ids tok 240000 all w'/\Fr (SD F a.t a.m) W w':=by
 obtain⟨e1,e2,e3,e4,e5,e6⟩:=h.fs
 subst e3
 have hst:=h.st
 obtain⟨hnv,hps⟩:=hst.Ez
 have hfw:=kF hnv
 have ht:=h.uH
 have hal:=h.II
 have hvl:=h.xB
 refine(yD (root:=root) (r:=240000) vs h.ok (by omega) (240000+2*all.length+2*ids.length) (hst.on.tm.less (by omega)) hst.hd (fun u W' hon=> ?_) h.yF h.pos (by omega)).mono ?_
 ·have:=DJ hst.Ey hnv (yG hst.on.tm) (by omega) ⟨#[86]⟩ ⟨#[87]⟩ (240000+2*all.length) W' hon
  rwa [Ct.yE]at this
 ·rintro e w' ⟨v,rfl,q1,q2,q3⟩
  exact⟨v,rfl,q1,⟨h.fs,h.on,hst.with_ (hst.on.step hst.Ey q2 q3),h.uH,h.pg,h.ok,h.xB,h.vers,h.kin,h.yF,h.pos,h.II,h.hF,h.below.trans (q3.low h.below.size fun k hk=>h.hF k (.inl hk))⟩,q3⟩
theorem Gu(h:LvA w0 f0 d0 N t u disk fl P vs rs F a root σ ids tok r all W)(hP:P<=2738)(hN:N+2000<90000):
  ∃id σ',σ'.mine.length<=100/\Calls Tryz.prog 30 #[.pointer (some ⟨t,0,none⟩)] W fun e w1=>e= .returned (.tuple #[.int .i64 id, .int .i64 0])/\(2<=id/\id<σ'.pages)/\Touch a.t a.m W w1/\
   Calls Tryz.prog 16 #[.pointer (some ⟨t,0,none⟩)] w1 fun e w'=>e= .returned (.int .i64 0)/\∃F' bg,FlH F 3000 a disk root id σ σ' ids (vs.map Ct.kX) tok N r w1 F' bg w':=by
 obtain⟨e1,e2,e3,e4,e5,e6⟩:=h.fs
 subst e3
 have hst:=h.st
 have hpg:=h.pg
 have hfw:=kF hst.Ez.1
 have hml:=hst.Au
 have ht:=h.uH
 obtain⟨id,σ',ha⟩:=vV (room:=max (3000:Int) 2) (σ:=σ) (by omega)
 exact⟨id,σ',by rw[(DK ha).1,List.length_append,List.length_singleton];omega,DL hst h.on hN e5 (by omega) ha⟩
theorem QG{id P':Int}{σ':Tp.Pst}{F' F2:aT}{bg:Tp.aA}{L:List Run}{N2 r2:Nat}{w1 w2 w3 w4:World}(h:LvA w0 f0 d0 N t u disk fl P vs rs F a root σ ids tok r all W)(hf:FlH F 3000 a disk root id σ σ' ids (vs.map Ct.kX) tok N r w1 F' bg w2)(hc:ChE F' 3000 bg id L N2 r2 w4 F2 w3)(hi:2<=id/\id<σ'.pages)(hp:pg L<=1)(hN:N2+1<1000000)(hP:P'=σ'.pages):
  LvR 3000 bg (N2+1) r2 P' root id L all F2.B f0 w3:=by
 subst hP
 have hh:hole bg id=bg:=by
  funext x
  unfold hole
  by_cases e:x=id
  ·rw[if_pos e,e,hf.none_]
  ·rw[if_neg e]
 have hfw:=kF h.st.Ez.1
 have ht:=h.uH
 have hal:=h.II
 have hvl:=h.xB
 have hpg:=hf.pg
 have hr:=hc.ready
 rw[hh]at hr
 have YD:∀ {root:Int} {es:List Ent} {tok:Nat} {ids:List Int},Tp.bH (σ.view disk) root es tok ids->Tp.bH bg root es tok ids:=fun {root es tok ids} hv=>hv.congr fun x hx=>by
  obtain⟨y,hy⟩:=hv.some_ x hx
  rw[hy,hf.view x y hy]
 refine⟨⟨F2, ?_,rfl,hr,hc.page⟩,hf.low.XE,⟨hpg.1,by omega⟩,⟨hi.1,by omega⟩,hp,hN,⟨vs,h.ok,by omega,⟨tok,ids,hf.ver,by omega,by omega⟩,⟨fun x hx=> ?_,h.yF.root⟩⟩,by omega⟩
 ·rw[hc.same.2.1,hf.same.2.1,h.fs.1]
 ·obtain⟨rt,es,tk,is,q1,q2,q3,q4⟩:=h.yF.inn x hx
  exact⟨rt,es,tk,is,q1,YD q2,q3,q4⟩
theorem QH{n:Nat}{es:List Ent}{id:Int}{σ':Tp.Pst}{F':aT}{bg:Tp.aA}{w w':World}(h:FlH F n a disk root id σ σ' ids es tok N r w F' bg w'):∃cs,Blk w' a.t 122 cs/\cs[2]? =some (.int .i64 σ'.pages):=by
 obtain⟨⟨_,⟨_,d1,_⟩,_⟩,⟨R,_,_,hA⟩,_⟩:=h.ready
 obtain⟨m,k,D,ht,_⟩:=h.tx.acy hA d1.ok.size
 obtain⟨v,hb,_⟩:=ht.self
 exact⟨_,hb,rfl⟩
end
theorem DZ(t:Nat)(cs:Array Value)(P:Int)(w:World)(hB:Blk w t 122 cs)(h2:cs[2]? =some (.int .i64 P)):
  Calls Tryz.prog 17 #[.pointer (some ⟨t,0,none⟩)] w fun e w'=>e= .returned (.int .i64 P)/\w'=w:=by
 have k:w.cell? ⟨t,2,none⟩=some (.int .i64 P):=(hB.cell 2).trans h2
 have l:=hB.lt
 clear hB h2
 go_enter Tryz.func17,Tryz.ntmps17
 go_wp2
 go_ret
 exact⟨rfl,rfl⟩
theorem YE(A:Option Addr)(c:Nat)(rl:List Sl)(fl:List (List Ent))(Af:Option Addr)(cf:Nat)(fr:List Run)(sh:Int)(w:World)(hr:LS slE w w.heap.size A rl)(hlen:fl.length=rl.length)(hx:∀i (h1:i<rl.length) (h2:i<fl.length),fl[i].length=rl[i].2.1/\LS bD w w.heap.size rl[i].1 fl[i])(hp:RS w w.heap.size Af fr)(hT:HT w):
  Calls Tryz.prog 4 #[.slice A rl.length c, .slice Af fr.length cf, .int .i64 sh] w (F8 w):=by
 have HW:=Lib.hid (Lp w hT)
 have HOV:=Lib.hid (fun W (hb:Below w.heap.size w W)=>OY A c rl fl W ((hr.below hb).more hb.size) hlen (fun i h1 h2=>⟨(hx i h1 h2).1,((hx i h1 h2).2.below hb).more hb.size⟩))
 have HRS:=Lib.hid hr
 have HRL:=Lib.hid hx
 have HHT:=Lib.hid hT
 have HPL:=Lib.hid hp
 have HD:=Lib.hid (fun W=>BR 3000 W)
 rw[show qK 3000=3000 by decide]at HD
 clear hr hx hT hp
 go_enter Tryz.func4,Tryz.ntmps4
 go_wp2_with fail
 refine Calls.mono HW.out ?_
 rintro e w1 ⟨rfl,b1⟩
 have HB:=Lib.hid b1
 clear b1 HW
 go_wp2_with fail
 refine(HOV.out _ HB.out).mono ?_
 rintro e w1' ⟨b,rfl,hw1,hbf⟩
 subst hw1
 cases b with
 |true=>
  go_wp2
  go_ret
  exact⟨rfl,HB.out⟩
 |false=>
  obtain⟨h8,h60⟩:=hbf rfl
  have H60:=Lib.hid h60
  clear hbf h60 HOV
  by_cases h20:(20:Int)<(fr.length:Nat)
  ·go_wp2
   go_ret
   exact⟨rfl,HB.out⟩
  go_wp2_with fail
  refine(HD.out _).mono ?_
  rintro e w2 ⟨d,rfl,hd,b2⟩
  have HFF:=Lib.hid (BU hd b2.size)
  have HB2:=Lib.hid (HB.out.trans (b2.mono HB.out.size))
  have HZ2:=Lib.hid b2.size
  clear hd b2 HD
  go_wp2_with fail
  refine HFF.out.mono ?_
  rintro e w3 ⟨f,rfl,hf,b3⟩
  have hB3:=HB2.out.trans (b3.mono HB2.out.size)
  have HG:=Lib.hid (LD A c rl fl w w3 f d (F7 (by decide) (by decide) hf (HHT.out.below hB3 HHT.out.1) HB.out.size HHT.out.1 (Nat.le_trans HZ2.out b3.size) hB3 (by decide)) HRS.out hlen HRL.out h8 H60.out HHT.out.1)
  clear hf b3 hB3 HFF HZ2 HB2 HB HRS HRL H60 HHT h20
  go_wp2_with fail
  refine Calls.mono HG.out ?_
  rintro e w4 ⟨Ar,cr,rs,t,disk,frl,P,N,rfl,hbg,hN,hvs,hlr,hP,hrow⟩
  have ae5:rs.length<=8:=by omega
  have hrange:∀x∈rs,0<=x/\x<=16384:=fun x hx=>by
   obtain⟨es,tk,is,q1,q2⟩:=hvs x hx
   rcases q1 with⟨rfl,_,_⟩ | ⟨hh,s,rfl,rfl,rfl,q4,q5,q6,q8⟩
   ·omega
   ·obtain⟨y,y1,_⟩:=Mk.tH q5 s.id (Tp.o9 q5)
    have:=(hbg.mk_.view y1).2.1
    omega
  have HRG:=Lib.hid hrange
  have HVS:=Lib.hid hvs
  have xw:=Lib.hid hrow
  have HNT:=Lib.hid (Gg (D:=66) (T:=0) (K:=40) (R0:=280000) (root:=0) (es:= []) (tok:=0) (ids:= []) (hbg.less (by omega)) (by decide) (Tp.bH.none_ _ _) (Nat.le_refl _) (by decide) (by omega))
  clear hbg hvs hrow HG hlr hrange
  go_wp2_with fail
  refine HNT.out.mono ?_
  rintro e w5 ⟨u,rfl,hg,hb5,hu⟩
  have hB5:=hg.below
  have b6:Below w5.heap.size w5 (w5.alloc (.cells #[.pointer (some ⟨u,0,none⟩)] 154)):=(Below.refl _ w5).alloc (Nat.le_refl _) _
  have HS0:Hid (IG w f d N t u w5.heap.size disk frl P w5.heap.size 280000 rs 0 [] Ar cr (w5.alloc (.cells #[.pointer (some ⟨u,0,none⟩)] 154))):=Lib.hid ⟨⟨hg.up b6,Blk.new _ _ _,Nat.le_refl _,fun x hx=>absurd hx List.not_mem_nil⟩,fun x hx=>absurd hx List.not_mem_nil,fun z=>by simp,Nat.le_refl _,(xw.out.below hb5).below b6,hB5.size⟩
  have X0:=Lr u w5
  clear hg hb5 hu hB5 b6 HNT xw
  go_wp2_with fail
  refine X0.mono ?_
  rintro e w6 ⟨rfl,rfl⟩
  generalize w5.heap.size=cc at*
  generalize (w5.alloc (.cells #[.pointer (some ⟨u,0,none⟩)] 154))=w6 at*
  clear X0
  go_wp2
  go_loopg [15] rs.length (fun gg s15 wr=>∃ (i:Nat) (vs:List Ct.Ver),s15= .int .i64 (i:Nat)/\i<=rs.length/\rs.length-i<=gg/\Hid (IG w f d N t u cc disk frl P cc 280000 rs i vs Ar cr wr))
  case atStart=>exact⟨0, [],rfl,Nat.zero_le _,by omega,HS0⟩
  case round=>
   clear HS0
   obtain⟨i,vs,rfl,hil,hig,HS⟩:=hrel
   have hwi:IntKind.i64.wrap ((i:Int)+1)=(i:Int)+1:=IntWalk.i64_in _ (by omega)
   by_cases hi:i<rs.length
   ·have hii:(i:Int)<(rs.length:Nat):=by omega
    obtain⟨bb,oo,rfl,hbb,g0⟩:=HS.out.aak.ls.int hi
    have hrg:=HRG.out _ (List.getElem_mem hi)
    have hcp:∀zn:Nat,rs[i]=(zn:Int)->zn<4294967296->_:=fun zn h1 h2=>LJ HS.out (zn:=zn) (by omega) hi h1 h2
    generalize rs[i]=z at*
    obtain⟨zn,rfl⟩:∃zn:Nat,z=(zn:Nat):=⟨z.toNat,by omega⟩
    have HP:=Lib.hid (hcp zn rfl (by omega))
    clear hcp
    go_wp2_with fail
    refine HP.out.mono ?_
    rintro e w7 ⟨rfl,vs',hst⟩
    have HS7:=Lib.hid hst
    clear hst HP HS g0
    go_wp2
    go_roundg (rs.length-(i+1))
    case measure=>omega
    case rel=>exact⟨i+1,vs',by go_num,by omega,Nat.le_refl _,HS7⟩
   ·obtain rfl:i=rs.length:=by omega
    have hii:¬ (rs.length:Int)<(rs.length:Nat):=by omega
    obtain⟨F,a,root,σ,ids,tok,all,hA⟩:=LK HS.out HVS.out ae5 rfl
    have HA:=Lib.hid hA
    have HR1:=Lib.hid (hA.fs.2.2.2.1 ▸ pK a.u root 0 wr hA.st.on.self)
    have uX:=Lib.hid hA.st.on.tm.low
    clear hA HS HRG HVS
    go_wp2_with fail
    refine HR1.out.mono ?_
    rintro e wq ⟨rfl,hwq⟩
    obtain rfl:=hwq
    have HMV:=Lib.hid (MB HA.out)
    clear HR1 HA
    go_wp2_with fail
    refine HMV.out.mono ?_
    rintro e w8 ⟨v1,rfl,hown1,hA8,hf8⟩
    obtain⟨A1,k1,rfl⟩:=hown1.form
    have hll:=bC (all.map dJ)
    rw[List.length_map]at hll
    have hal:=hA8.II
    obtain⟨L,hL⟩:∃x,x=Rp.norm (all.map dJ):=⟨_,rfl⟩
    rw[<-hL]at hown1 hll ⊢
    have HL:=Lib.hid hL
    have HO1:=Lib.hid hown1
    have HA8:=Lib.hid hA8
    obtain⟨id,σ',ahy,afk⟩:=Gu hA8 (by omega) (by omega)
    have HAL:=Lib.hid afk
    clear hown1 hA8 hf8 afk HMV hL
    go_wp2_with fail
    refine HAL.out.mono ?_
    rintro e w9 ⟨rfl,afl,afm,hfl⟩
    have HFL:=Lib.hid hfl
    have HTC:=Lib.hid afm
    clear hfl afm HAL
    go_wp2_with fail
    refine HFL.out.mono ?_
    rintro e w10 ⟨rfl,F',bg,hfh⟩
    obtain⟨csb,hpb,afn⟩:=QH hfh
    rw[HA8.out.fs.2.2.1]at hpb
    have afo:Hid (Own w10 wq.heap.size (.slice A1 L.length k1) L):=Lib.hid (hfh.own _ _ _ (HO1.out.frS HTC.out.fr fun k hk=>by have:=uX.out;rcases hk with rfl | rfl<;>omega))
    have HP1:=Lib.hid (fun W (hk:Kept w10 W)=>DZ t csb σ'.pages W (hk _ _ _ hpb (by decide) (by decide)) afn)
    have hP2:2<=σ'.pages/\σ'.pages<=3000:=by have:=hfh.pg;omega
    have HFH:=Lib.hid hfh
    have hb9:=HA8.out.below.trans (HTC.out.fr.low HA8.out.below.size fun k hk=>HA8.out.hF k (.inl (hk.imp (fun e=>e) .inl)))
    have HBW:Hid (Below w.heap.size w w10):=Lib.hid (hb9.trans (hfh.below.mono HA8.out.fs.2.2.2.2.2))
    clear hfh HFL hpb afn HO1 hb9
    go_wp2_with fail
    refine(HP1.out _ (Kept.refl _)).mono ?_
    rintro e w11 ⟨rfl,acM⟩
    obtain rfl:=acM
    go_wp2_with fail
    generalize hpp:min (max (σ'.pages+min (max sh (-3)) 3) 2) 2990=pp
    have hp2:2<=pp/\pp<=2990:=by omega
    clear hpp
    obtain⟨LV,hLV⟩:∃x,x=Rp.union L [(id,id)]:=⟨_,rfl⟩
    have hlv:=xK L [(id,id)]
    rw[List.length_singleton, <-hLV]at hlv
    have hadd:=add_any A1 k1 L id w11 afo.out.rs (by omega)
    rw[<-hLV]at hadd
    have UJ:=Lib.hid hadd
    have HLV:=Lib.hid hLV
    clear hadd hLV
    refine UJ.out.mono ?_
    intro e w12 he
    obtain⟨A2,c2,rfl,ho2,_,b12⟩:=he.open_
    have hwp:IntKind.i64.wrap (pp-1)=pp-1:=IntWalk.i64_in _ (by omega)
    have HO2:=Lib.hid ho2
    have YF:=Lib.hid b12
    clear he ho2 b12 UJ afo
    go_wp2_with fail
    have afp:RS (w12.alloc (.cells #[.int .i64 2, .int .i64 (pp-1)] 64)) (w12.alloc (.cells #[.int .i64 2, .int .i64 (pp-1)] 64)).heap.size A2 LV:=(HO2.out.rs.below ((Below.refl _ w12).alloc (Nat.le_refl _) _)).more (by simp)
    obtain⟨M,hM⟩:∃x,x=Rp.minus [(2,pp-1)] LV:=⟨_,rfl⟩
    have hml:=QN [(2,pp-1)] LV
    have hmc:=Rp.uO (Rp.iY [(2,pp-1)] LV).1
    have hmin:Calls Tryz.prog 32 #[.slice (some ⟨w12.heap.size,0,none⟩) 1 1, .slice A2 LV.length c2] (w12.alloc (.cells #[.int .i64 2, .int .i64 (pp-1)] 64)) (gW (Rp.minus [(2,pp-1)] LV) (w12.alloc (.cells #[.int .i64 2, .int .i64 (pp-1)] 64))):=
     sH (some ⟨w12.heap.size,0,none⟩) A2 1 c2 [(2,pp-1)] LV _ (RS.single w12 2 (pp-1) 64) afp (by simp) (by omega)
    rw[<-hM]at hmin hml hmc
    rw[List.length_singleton]at hml
    have afq:=Lib.hid hmin
    have HMC:=Lib.hid hmc
    clear hmin hmc hM afp
    refine afq.out.mono ?_
    intro e w13 he
    obtain⟨A3,c3,rfl,ho3,_,b13⟩:=he.open_
    have Tv:w12.heap.size<=(w12.alloc (.cells #[.int .i64 2, .int .i64 (pp-1)] 64)).heap.size:=by simp
    have UK:Hid (Below w11.heap.size w11 w13):=Lib.hid ((YF.out.alloc YF.out.size _).trans (b13.mono (Nat.le_trans YF.out.size Tv)))
    have HO3:Hid (Own w13 w11.heap.size (.slice A3 M.length c3) M):=Lib.hid (Own.lower ho3 (Nat.le_trans YF.out.size Tv))
    have UL:Hid (Own w13 w11.heap.size (.slice A2 LV.length c2) LV):=Lib.hid (Own.below HO2.out ((Below.refl _ w12).alloc (Nat.le_refl _) _ |>.trans (b13.mono Tv)))
    clear he ho3 b13 Tv afq HO2 YF
    go_upto_if 114 with fail
    go_cut [22]from 112 to 117 (fun v22 wx=>∃ (L2:List Run) (A4:Option Addr) (c4:Nat),v22= .slice A4 L2.length c4/\L2.length<=90000/\Hid (Rp.norm L2=L2)/\Hid (Own wx w11.heap.size (.slice A4 L2.length c4) L2)/\Hid (Own wx w11.heap.size (.slice A2 LV.length c2) LV)/\Hid (Below w11.heap.size w11 wx))
    case first=>
     by_cases hf0:(0:Int)<(fr.length:Nat)
     ·have ac5:=HBW.out.trans (UK.out.mono HBW.out.size)
      have hnm:=kH Af cf fr w13 ((HPL.out.below ac5).more ac5.size) (by omega)
      have hnl:=bC fr
      obtain⟨M2,hM2⟩:∃x,x=Rp.norm fr:=⟨_,rfl⟩
      have afr:Rp.norm M2=M2:=by rw[hM2,Gt]
      rw[<-hM2]at hnm hnl
      have HNM:=Lib.hid hnm
      have ahn:=Lib.hid afr
      clear hnm afr hM2 ac5
      go_wp2_with fail
      refine HNM.out.mono ?_
      intro e w14 he
      obtain⟨A5,c5,rfl,ho5,_,b14⟩:=he.open_
      have HO5:=Lib.hid (ho5.lower UK.out.size)
      have abD:=Lib.hid (UK.out.trans (b14.mono UK.out.size))
      have aau:=Lib.hid (Own.below UL.out b14)
      clear he ho5 b14 HNM
      go_wp2
      go_meet
      exact⟨M2,A5,c5,rfl,by omega,ahn,HO5,aau,abD⟩
     ·go_wp2
      go_meet
      exact⟨M,A3,c3,rfl,by omega,HMC,HO3,UL,UK⟩
    obtain⟨L2,A4,c4,rfl,hl2,HN2,HO4,HO2,HB4⟩:=hcut
    clear HO3 UL UK HMC HPL hml hwp
    go_wp2_with fail
    have hk0:F'.k+1000<maxLen:=by rw[HFH.out.same.2.2.2];unfold maxLen;omega
    have hf':F'.f=f:=HFH.out.same.2.1.trans HA8.out.fs.1
    have hba:=(Below.refl _ wc).alloc (Nat.le_refl _) (.cells #[.int .i64 id] 3)
    have hza:wc.heap.size<=(wc.alloc (.cells #[.int .i64 id] 3)).heap.size:=by simp
    have hfc:=Yx (F:=F') (i:=id) (l:=L2) ((HFH.out.ready.below HB4.out).below hba) hk0 (by omega) ⟨afl.1,by omega⟩ A4 (some ⟨wc.heap.size,0,none⟩) c4 1 wc.heap.size hl2 HN2.out ((HO4.out.rs.below hba).more hza) (LO.one rfl rfl (Blk.new wc 3 #[.int .i64 id]) (Nat.le_refl _))
    rw[hf']at hfc
    have HFC:=Lib.hid hfc
    have HWA:Hid (Below w.heap.size w (wc.alloc (.cells #[.int .i64 id] 3))):=Lib.hid ((HBW.out.trans (HB4.out.mono HBW.out.size)).alloc (Nat.le_trans HBW.out.size HB4.out.size) _)
    have HKA:Hid (Kept w11 (wc.alloc (.cells #[.int .i64 id] 3))):=Lib.hid ((Kept.below HB4.out).trans (Kept.below hba))
    have afs:=Lib.hid (Own.below HO4.out hba)
    have aft:=Lib.hid (Own.below HO2.out hba)
    clear hfc hba hza hk0 hf' HO4 HO2 HB4
    refine HFC.out.mono ?_
    rintro e w15 (⟨hpg,rfl,b15⟩ | ⟨hpg,rfl,F2,hce⟩)
    ·have HE:=Lib.hid (HWA.out.trans (b15.mono HWA.out.size))
     clear b15 HFC
     go_wp2
     go_ret
     exact⟨rfl,HE.out⟩
    ·have afu:=QG HA8.out HFH.out hce afl hpg (by omega) rfl
     have hsu:=HFH.out.self
     rw[HA8.out.fs.2.2.2.1,HA8.out.fs.2.2.1]at hsu
     have aav:Hid (Kept w11 w15):=Lib.hid (HKA.out.trans hce.kept)
     have hFB:F2.B=F.B:=hce.same.1.trans HFH.out.same.1
     have ac6:Hid (Below w.heap.size w w15):=Lib.hid (HWA.out.trans (hce.below.mono (by rw[HFH.out.same.1];exact HA8.out.fs.2.2.2.2.2)))
     have afv:=Lib.hid (ng afs.out hce.kept)
     have UL:=Lib.hid (ng aft.out hce.kept)
     have HLR:=Lib.hid afu
     have HRT:=Lib.hid (pK u root 0 w15 (aav.out _ _ _ hsu (by decide) (by decide)))
     have afw:=Lib.hid (HP1.out w15 aav.out)
     have hFl:w.heap.size<=F2.B:=by rw[hFB];exact HA8.out.fs.2.2.2.2.2
     clear afu hsu hce HFC HKA HWA afs aft
     go_wp2_with fail
     refine afw.out.mono ?_
     rintro e wx ⟨rfl,hwx⟩
     obtain rfl:=hwx
     go_wp2_with fail
     refine HRT.out.mono ?_
     rintro e wy ⟨rfl,hwy⟩
     obtain rfl:=hwy
     clear afw HRT
     go_wp2_with fail
     have hbR:=(Below.refl _ wy).alloc (Nat.le_refl _) (.cells #[.int .i64 1, .int .i64 σ'.pages, .int .i64 root, .int .i64 id, .int .i64 0] 68)
     have hzR:wy.heap.size<=(wy.alloc (.cells #[.int .i64 1, .int .i64 σ'.pages, .int .i64 root, .int .i64 id, .int .i64 0] 68)).heap.size:=by simp
     have HLI:=Lib.hid (L9 (r:=180000) (ep:=1) (nx:=0) (HLR.out.keep hbR))
     have afx:=Lib.hid (Blk.new wy 68 #[.int .i64 1, .int .i64 σ'.pages, .int .i64 root, .int .i64 id, .int .i64 0])
     have afy:=Lib.hid (ac6.out.trans (hbR.mono ac6.out.size))
     have ZA:Hid (Kept w11 _):=Lib.hid (aav.out.trans (Kept.below hbR))
     have afz:=Lib.hid (Own.below afv.out hbR)
     have aau:=Lib.hid (Own.below UL.out hbR)
     have afA:Hid (nJ all id=LV):=Lib.hid (by unfold nJ;rw[HLV.out,HL.out])
     clear hbR hzR HLR ac6 aav afv UL
     refine HLI.out.mono ?_
     rintro e w17 ⟨v6,rfl,ho6,afB,hb6,hk6⟩
     rw[afA.out]at ho6
     obtain⟨A6,c6,rfl⟩:=ho6.form
     have ho2:=ng aau.out hk6
     have HSM:=Lib.hid (UZ A6 A2 LV c6 c2 w17 ho6.rs ho2.rs (by omega))
     have ac7:=Lib.hid (hk6 _ _ _ afx.out (by decide) (by decide))
     have ac8:=Lib.hid (afy.out.trans (hb6.mono hFl))
     have afC:Hid (Kept w11 w17):=Lib.hid (ZA.out.trans hk6)
     have afD:=Lib.hid (ng afz.out hk6)
     have afE:=Lib.hid ho2
     have afF:=Lib.hid afB
     clear ho6 afB hb6 hk6 ho2 HLI afx afy ZA afz aau
     go_wp2_with fail
     refine Calls.mono HSM.out ?_
     rintro e w18 ⟨rfl,b18⟩
     have afG:=Lib.hid (ac8.out.trans (b18.mono ac8.out.size))
     have afH:Hid (Kept w11 w18):=Lib.hid (afC.out.trans (Kept.below b18))
     have UM:=Lib.hid (ac7.out.below b18 ac7.out.lt)
     have afI:=Lib.hid (Own.below afD.out b18)
     have afJ:=Lib.hid (Own.below afE.out b18)
     have aii:L2.length<=29:=by
      have h29:=hpg
      unfold pg at h29
      rw[HN2.out]at h29
      omega
     have HWH:=Lib.hid (zJ (r:=120000) (ep:=1) (nx:=0) (by omega) (afF.out.keep b18))
     have c0:=UM.out.cell 0
     have c1:=UM.out.cell 1
     have c2':=UM.out.cell 2
     have c3':=UM.out.cell 3
     have c4':=UM.out.cell 4
     clear b18 HSM ac8 afC ac7 afD afE afF hpg
     go_wp2_with fail
     refine Calls.mono HWH.out ?_
     rintro e w19 ⟨rfl,aho,hb7,hk7⟩
     rw[afA.out,HN2.out]
     have afK:=Lib.hid (HP1.out w19 (afH.out.trans hk7))
     have ho4:=ng afI.out hk7
     have ho2:=ng afJ.out hk7
     have HRW:=Lib.hid (IK A2 A4 c2 c4 LV L2 σ'.pages w19 ho2.rs ho4.rs (by omega) (by omega) ⟨hP2.1,by omega⟩)
     have ac9:=Lib.hid (afG.out.trans (hb7.mono hFl))
     generalize iW LV L2 σ'.pages=bb at*
     clear aho hb7 hk7 ho4 ho2 HWH afG afH UM afI afJ c0 c1 c2' c3' c4'
     go_wp2_with fail
     refine afK.out.mono ?_
     rintro e wz ⟨rfl,hwz⟩
     obtain rfl:=hwz
     go_wp2_with fail
     refine Calls.mono HRW.out ?_
     rintro e w20 ⟨rfl,b20⟩
     have HE:=Lib.hid (ac9.out.trans (b20.mono ac9.out.size))
     clear b20 HRW afK ac9
     cases bb<;>
     ·go_wp2
      go_ret
      exact⟨rfl,HE.out⟩
end Go.Proofs.YteppebbmnojapaaGreatDoor
namespace Go.Proofs.YteppebbmnojapaaGreatDoor
open Go.RowKit
def Pm(n:Int):Prop:=n<=9223372036854775807
end Go.Proofs.YteppebbmnojapaaGreatDoor
namespace Go.Proofs.YteppebbmnojapaaGreatDoor
open Go.RowKit Go.ChangeShapes Go.WideShapes Go.Deep
theorem aa6{x:Int}(h:(Lit.int .i64 x).wf=true):Pm x:=by
 have hx: -9223372036854775808<=x/\x<=9223372036854775807:=by simpa[Lit.wf,IntKind.min,IntKind.max,IntKind.signed,IntKind.bits]using h
 exact hx.2
section
variable {H:Type}{enc:TypeId × Value->H}
theorem UN{W:World}{A:Option Addr}{len cap:Nat}{d:DataW H}{p:List MemPlace}(h:DataW.Trod enc Tryz.prog W 0 (fun _=>true) true 47 (.slice A len cap) d p):
  ∃l:List Run,l.length=len/\RS W W.heap.size A l/\∀k (hk:k<l.length),Pm l[k].1/\Pm l[k].2:=by
 obtain⟨fuel,hf⟩:=h
 rcases jM Tryz.underlying47 Tryz.underlying64 (by kernel_rfl) (by kernel_rfl) hf with⟨hcs,_⟩ | ⟨a,len',cap',m,D,Pl,hcs,_,hl,hm,hmm,hx,hi⟩
 ·simp[Value.cells]at hcs
  obtain⟨rfl,rfl,rfl⟩:=hcs
  exact⟨[],rfl,RS.nil_,fun k hk=>absurd hk (by simp)⟩
 ·simp[Value.cells]at hcs
  obtain⟨rfl,rfl,rfl⟩:=hcs
  simp only[if_true]at hmm
  subst hmm
  have key:∀i,∃r:Run,i<len->(W.cell? (a.add (i*2))=some (.int .i64 r.1)/\W.cell? (a.add (i*2+1))=some (.int .i64 r.2))/\Pm r.1/\Pm r.2:=by
   intro i
   by_cases hil:i<len
   ·obtain⟨ys,n,_,_,hys,hfld⟩:=hi i (by omega)
    obtain⟨v0,y0,hc0,_,t0⟩:=hfld 0 _ rfl
    obtain⟨v1,y1,hc1,_,t1⟩:=hfld 1 _ rfl
    obtain⟨x0,e0,_,w0⟩:=DataW.trod_int Tryz.underlying3 t0
    obtain⟨x1,e1,_,w1⟩:=DataW.trod_int Tryz.underlying3 t1
    simp at e0 e1
    subst e0 e1
    exact⟨(x0,x1),fun _=>⟨⟨hc0,hc1⟩,aa6 w0,aa6 w1⟩⟩
   ·exact⟨(0,0),fun h=>absurd h hil⟩
  obtain⟨f,hfs⟩:∃f:Nat->Run,∀i,i<len->(W.cell? (a.add (i*2))=some (.int .i64 (f i).1)/\W.cell? (a.add (i*2+1))=some (.int .i64 (f i).2))/\Pm (f i).1/\Pm (f i).2:=⟨fun i=>Classical.choose (key i),fun i=>Classical.choose_spec (key i)⟩
  clear key
  refine⟨(List.range len).map f,by simp, ?_, ?_⟩
  ·refine⟨by rw[jZ],fun hpos=>⟨a,rfl, ?_, ?_⟩⟩
   ·have:=(hfs 0 (by simpa using hpos)).1.1
    have hb:=World.block_lt_of_cell? W _ this
    rwa [jD]at hb
   ·intro j u hu
    have hjl:j<len*2:=by
     have:=(List.getElem?_eq_some_iff.1 hu).1
     rw[jZ]at this;simpa using this
    have hlen:j / 2<((List.range len).map f).length:=by simp;omega
    obtain⟨g0,g1⟩:=su _ (j / 2) hlen
    have hs:=hfs (j / 2) (by omega)
    simp only[List.getElem_map,List.getElem_range]at g0 g1
    rcases Nat.mod_two_eq_zero_or_one j with hj | hj
    ·have e:j / 2*2=j:=by omega
     rw[e]at g0
     rw[g0]at hu
     injection hu with hu
     rw[<-hu]
     have:=hs.1.1
     rwa [e]at this
    ·have e:j / 2*2+1=j:=by omega
     rw[e]at g1
     rw[g1]at hu
     injection hu with hu
     rw[<-hu]
     have:=hs.1.2
     rwa [e]at this
  ·intro k hk
   simp only[List.getElem_map,List.getElem_range]
   exact(hfs k (by simpa using hk)).2
end
end Go.Proofs.YteppebbmnojapaaGreatDoor
namespace Go.Proofs.YteppebbmnojapaaGreatDoor
open Go.ChangeShapes Go.WideShapes Go.ChangeAt Go.RowKit
def afL:List (String × DataW Unit):= [("rootstock/crc.halves",Rows.laid_rootstock_crc_halves),("unicode/utf8.acceptRanges",Rows.laid_unicode_utf8_acceptRanges),("unicode/utf8.first",Rows.laid_unicode_utf8_first)]
theorem UO:(Rows.laid_rootstock_crc_halves:DataW Unit)= .agg (Cc.hv.map fun n:Nat=> .lit (.int .u32 (n:Int))):=by kernel_rfl
theorem afM{W:World}(h:laidMetH Tryz.prog afL W):HT W:=by
 rw[MakeChecks.laidMetH_plain _ _ _ (by kernel_rfl)]at h
 obtain⟨ps,⟨g,t,cs,fuel,p,q,hg,ht,hv,hd,_,_⟩,_⟩:=h
 obtain rfl:=Option.some.inj ((show Tryz.prog.globalNamed "rootstock/crc.halves" =some 1 by kernel_rfl).symm.trans hg)
 obtain rfl:=Option.some.inj ((show(Tryz.prog.globals[1]?).map (·.type)=some 396by kernel_rfl).symm.trans ht)
 obtain⟨xs,m,_,ex,_,hl,hel⟩:=DataW.trod_array Tryz.underlying396 hd
 have hc:∀r,r<16->W.cell? ⟨1,r,none⟩=some (.int .u32 ((Cc.hv.getD r 0:Nat):Int)):=by
  intro r hr
  have c5:Tryz.prog.cellsOf 290=1:=by kernel_rfl
  have hE:=hel r hr
  rw[c5,Nat.mul_one,List.getElem?_eq_getElem (by omega)]at hE
  obtain⟨z,e1,e2,_⟩:=DataW.trod_int Tryz.underlying290 hE
  have hlen:Cc.hv.length=16:=by decide
  rw[UO]at ex
  have e3:(xs.map (·.1))=Cc.hv.map fun n:Nat=>(DataW.lit (.int .u32 (n:Int)):DataW Unit):=(DataW.agg.inj (Prod.mk.inj ex).1).symm
  have e4:(xs.map (·.1))[r]? =(Cc.hv.map fun n:Nat=>(DataW.lit (.int .u32 (n:Int)):DataW Unit))[r]? :=by rw[e3]
  rw[List.getElem?_map,List.getElem?_map,List.getElem?_eq_getElem (by omega:r<xs.length),List.getElem?_eq_getElem (by omega:r<Cc.hv.length),e2]at e4
  have hz:z=((Cc.hv.getD r 0:Nat):Int):=by
   simp only[Option.map_some,Option.some.injEq,DataW.lit.injEq,Lit.int.injEq,true_and]at e4
   rw[e4,List.getD,List.getElem?_eq_getElem (by omega:r<Cc.hv.length)];rfl
  rw[World.var?_cell hg hv r, <-hz]
  have:cs.toList[r]? =some (.int .u32 z):=by
   have h0:((cs.toList.drop r).take 1)[0]? =some (.int .u32 z):=by rw[e1];rfl
   simpa using h0
  simpa using this
 exact⟨World.block_lt_of_cell? W _ (hc 0 (by decide)),hc⟩
end Go.Proofs.YteppebbmnojapaaGreatDoor
