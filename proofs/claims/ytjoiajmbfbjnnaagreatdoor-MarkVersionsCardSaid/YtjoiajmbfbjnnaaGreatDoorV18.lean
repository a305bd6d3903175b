/- Part of this proof. -/
import Derived.Test.YtjoiajmbfbjnnaaGreatDoorV16
import Derived.Test.YtjoiajmbfbjnnaaGreatDoorV17
set_option maxRecDepth 100000
set_option maxHeartbeats 8000000
namespace Go.Proofs.YtjoiajmbfbjnnaaGreatDoor
open Go.RowKit Go.Shelf
def keyE:Enc ByteArray:=⟨fun s=> [.string s],1,fun _=>rfl,by decide,fun x u hu=>by simp at hu;subst hu;rfl⟩
theorem eiKey:EI Tryz.prog 9 (.string ⟨#[]⟩) 1 16:=EI.mk (by kernel_rfl)
theorem igrow_nil(n:Nat)(w:World)(hn:n<=4000000):Calls Tryz.prog 283 #[.slice none 0 0, .int .i64 n] w (LEnd intE 3 [] w):=by
 obtain⟨i0,hi,hz0,hz1,hz2⟩:=eiInt
 by_cases h0:n=0
 ·subst h0
  refine Calls.mono (Any8.slices_Grow_room Tryz.growInt none 0 0 0 w (by omega) (by omega) (by omega) (by omega)) ?_
  rintro e w' ⟨rfl,hw⟩
  subst hw
  exact⟨_,rfl,LO.nil_ _ _,Below.refl _ _⟩
 ·refine Calls.mono (Any8.slices_Grow_grow Tryz.growInt i0 _ hi hz0 (by omega) none 0 0 n [] w (by omega) (by omega) (by rw[hz2];omega) (by omega) (by simp) (fun _=>rfl) (fun a h=>by cases h)) ?_
  rintro e w' ⟨rfl,rfl⟩
  refine⟨_,rfl, ?_,((Below.refl _ _).drew).alloc (Nat.le_refl _) _⟩
  refine World.ownsRow_made (base:=w.heap.size) (e:=3) (size:=1) w.drew _ _ (Nat.le_refl _) (grownCap_le_maxLen w _ _ _ (by unfold maxLen;omega)) ?_
  rw[Array.size_append,Array.size_append,size_zeroCells,size_zeroCells]
  have h:=grownCap_ge w (0+n) 0 3
  have e1:(Value.int .i64 0:Value).cells.size=1:=rfl
  have e2:Tryz.growInt_ren.t 25=3:=rfl
  rw[e1,e2]
  simp only[Nat.zero_add]at h ⊢
  simp
  omega
abbrev IPart:=Option Addr × Nat × List Int
def iconc(ps:List IPart):List Int:=ps.flatMap (·.2.2)
def ipartV(p:IPart):Value:= .slice p.1 p.2.2.length p.2.1
theorem iconc_succ(ps:List IPart)(j:Nat)(hj:j<ps.length):iconc (ps.take (j+1))=iconc (ps.take j)++ps[j].2.2:=by
 unfold iconc;rw[List.take_succ_eq_append_getElem hj,List.flatMap_append];simp
theorem iconc_len(ps:List IPart)(j:Nat):(iconc (ps.take j)).length<=(iconc ps).length:=by
 have e:iconc ps=iconc (ps.take j)++iconc (ps.drop j):=by unfold iconc;rw[<-List.flatMap_append,List.take_append_drop]
 rw[e,List.length_append];omega
theorem iconcat_any(g n:Nat)(ps:List IPart)(hn:ps.length=n)(hn2:n<=10)(w:World)(hB:Blk w g 29 (ps.map ipartV).toArray)(hls:∀p∈ps,LS intE w w.heap.size p.1 p.2.2)(hl:(iconc ps).length<=1000000):
  Calls Tryz.prog 269 #[.slice (some ⟨g,0,none⟩) n n] w (LEnd intE 3 (iconc ps) w):=by
 obtain⟨o,ho⟩:∃o,o=iconc ps:=⟨_,rfl⟩
 rw[<-ho]
 have HO:=Lib.hid ho
 have HLS:=Lib.hid hls
 have HN:=Lib.hid hn
 have hnp:ps.length<=10:=by omega
 have hnp2:ps.length<=n:=by omega
 have hnp3:n<=ps.length:=by omega
 have hcell:∀j (hj:j<ps.length),w.cell? ⟨g,j,none⟩=some (ipartV ps[j]):=fun j hj=>by
  rw[hB.cell j];simp[hj]
 have HC:=Lib.hid hcell
 have hgl:=hB.lt
 have hcl:=fun j=>iconc_len ps j
 clear ho hls hn hcell hB
 go_enter Tryz.func269,Tryz.ntmps269
 go_wp2
 go_loop [3,5,11] (fun s _ i=>∃j:Nat,j<=ps.length/\i= .int .i64 j/\s= .int .i64 ((iconc (ps.take j)).length:Int)) (fun _ _ i=>n-(intOf i).toNat)
 case atStart=>exact⟨0,by omega,rfl,rfl⟩
 case round=>
  obtain⟨j,hj,rfl,rfl⟩:=hrel
  by_cases hlt:j<ps.length
  ·have hlt2:(j:Int)<n:=by omega
   have c0:=HC.out j hlt
   have hs:=congrArg List.length (iconc_succ ps j hlt)
   rw[List.length_append]at hs
   have h1:=hcl (j+1)
   unfold ipartV at c0
   generalize ps[j]=p at*
   obtain⟨pA,pk,pl⟩:=p
   simp only at c0 hs
   have HS:=Lib.hid hs
   have hb1:((iconc (ps.take j)).length:Int)+pl.length<=1000000:=by omega
   have hb0:(0:Int)<=((iconc (ps.take j)).length:Int)+pl.length:=by omega
   clear hs
   generalize (iconc (ps.take j)).length=s1 at*
   go_wp2
   go_round
   case rel=>exact⟨j+1,by omega,by go_num,by rw[HS.out];go_num⟩
   case measure=>simp[intOf];omega
  ·obtain rfl:j=ps.length:=by omega
   have hge:(n:Int)<=ps.length:=by omega
   have hal:iconc (ps.take ps.length)=iconc ps:=by rw[List.take_of_length_le (Nat.le_refl _)]
   rw[hal]
   have hgr:=igrow_nil (iconc ps).length w (by omega)
   have HG:=Lib.hid hgr
   clear hgr
   have HAL:=Lib.hid hal
   clear hal
   go_wp2_with fail
   refine HG.out.mono ?_
   rintro e w2 ⟨v,rfl,ho2,hb2⟩
   go_wp2
   go_loopw [6,8,27] (fun v _ i wr=>∃j:Nat,j<=ps.length/\i= .int .i64 j/\Below w.heap.size w2 wr/\LO intE 3 wr w.heap.size v (iconc (ps.take j))) (fun _ _ i _=>n-(intOf i).toNat)
   case atStart=>exact⟨0,by omega,rfl,Below.refl _ _,ho2⟩
   case round=>
    obtain⟨j,hj,rfl,hbw,hown⟩:=hrel
    have hzz:w.heap.size<=wr.heap.size:=Nat.le_trans hb2.size hbw.size
    have hbz:=hb2.trans hbw
    by_cases hlt:j<ps.length
    ·have hlt2:(j:Int)<n:=by omega
     have c0:=(hbz.cell (p:=⟨g,j,none⟩) hgl).trans (HC.out j hlt)
     have hls:=HLS.out _ (List.getElem_mem hlt)
     have hcs:=iconc_succ ps j hlt
     have h1:=hcl (j+1)
     rw[hcs,List.length_append]at h1
     unfold ipartV at c0
     have HCS:=Lib.hid hcs
     clear hcs
     generalize ps[j]=p at*
     obtain⟨pA,pk,pl⟩:=p
     simp only at c0 hls h1 HCS
     have s1:LS intE wr wr.heap.size pA pl:=(hls.below hbz).more hzz
     generalize iconc (ps.take j)=cj at*
     have hraw:=hown.raw rfl (s:=1) rfl
     have hgw:g<wr.heap.size:=by omega
     go_wp2_with (at_builtin;refine wpList_appN rfl (.tmp 31) (.tmp 32) 29 rfl eiInt Tryz.underlying29 rfl (by decide) rfl hraw rfl s1 (intE.cells_all _) (by unfold maxLen;omega) (by omega) hzz ?_;intro v' w3 hown' hgrow hbel)
     go_roundw
     case rel=>
      refine⟨j+1,by omega,by go_num,hbw.trans hbel, ?_⟩
      rw[HCS.out]
      unfold LO
      rw[intE.cells_append,List.length_append];exact hown'
     case measure=>simp[intOf];omega
    ·obtain rfl:j=ps.length:=by omega
     go_wp2
     go_ret
     exact⟨_,rfl,by rw[HO.out, <-HAL.out];exact hown,hbz⟩
theorem kgrow_nil(n:Nat)(w:World)(hn:n<=4000000):Calls Tryz.prog 284 #[.slice none 0 0, .int .i64 n] w (LEnd keyE 9 [] w):=by
 obtain⟨i0,hi,hz0,hz1,hz2⟩:=eiKey
 by_cases h0:n=0
 ·subst h0
  refine Calls.mono (Any8.slices_Grow_room Tryz.growStr none 0 0 0 w (by omega) (by omega) (by omega) (by omega)) ?_
  rintro e w' ⟨rfl,hw⟩
  subst hw
  exact⟨_,rfl,LO.nil_ _ _,Below.refl _ _⟩
 ·refine Calls.mono (Any8.slices_Grow_grow Tryz.growStr i0 _ hi hz0 (by omega) none 0 0 n [] w (by omega) (by omega) (by rw[hz2];omega) (by omega) (by simp) (fun _=>rfl) (fun a h=>by cases h)) ?_
  rintro e w' ⟨rfl,rfl⟩
  refine⟨_,rfl, ?_,((Below.refl _ _).drew).alloc (Nat.le_refl _) _⟩
  refine World.ownsRow_made (base:=w.heap.size) (e:=9) (size:=1) w.drew _ _ (Nat.le_refl _) (grownCap_le_maxLen w _ _ _ (by unfold maxLen;omega)) ?_
  rw[Array.size_append,Array.size_append,size_zeroCells,size_zeroCells]
  have h:=grownCap_ge w (0+n) 0 9
  have e1:(Value.string ⟨#[]⟩:Value).cells.size=1:=rfl
  have e2:Tryz.growStr_ren.t 25=9:=rfl
  rw[e1,e2]
  simp only[Nat.zero_add]at h ⊢
  simp
  omega
abbrev KPart:=Option Addr × Nat × List ByteArray
def kconc(ps:List KPart):List ByteArray:=ps.flatMap (·.2.2)
def kpartV(p:KPart):Value:= .slice p.1 p.2.2.length p.2.1
theorem kconc_succ(ps:List KPart)(j:Nat)(hj:j<ps.length):kconc (ps.take (j+1))=kconc (ps.take j)++ps[j].2.2:=by
 unfold kconc;rw[List.take_succ_eq_append_getElem hj,List.flatMap_append];simp
theorem kconc_len(ps:List KPart)(j:Nat):(kconc (ps.take j)).length<=(kconc ps).length:=by
 have e:kconc ps=kconc (ps.take j)++kconc (ps.drop j):=by unfold kconc;rw[<-List.flatMap_append,List.take_append_drop]
 rw[e,List.length_append];omega
theorem kconcat_any(g n:Nat)(ps:List KPart)(hn:ps.length=n)(hn2:n<=10)(w:World)(hB:Blk w g 30 (ps.map kpartV).toArray)(hls:∀p∈ps,LS keyE w w.heap.size p.1 p.2.2)(hl:(kconc ps).length<=1000000):
  Calls Tryz.prog 270 #[.slice (some ⟨g,0,none⟩) n n] w (LEnd keyE 9 (kconc ps) w):=by
 obtain⟨o,ho⟩:∃o,o=kconc ps:=⟨_,rfl⟩
 rw[<-ho]
 have HO:=Lib.hid ho
 have HLS:=Lib.hid hls
 have HN:=Lib.hid hn
 have hnp:ps.length<=10:=by omega
 have hnp2:ps.length<=n:=by omega
 have hnp3:n<=ps.length:=by omega
 have hcell:∀j (hj:j<ps.length),w.cell? ⟨g,j,none⟩=some (kpartV ps[j]):=fun j hj=>by
  rw[hB.cell j];simp[hj]
 have HC:=Lib.hid hcell
 have hgl:=hB.lt
 have hcl:=fun j=>kconc_len ps j
 clear ho hls hn hcell hB
 go_enter Tryz.func270,Tryz.ntmps270
 go_wp2
 go_loop [3,5,11] (fun s _ i=>∃j:Nat,j<=ps.length/\i= .int .i64 j/\s= .int .i64 ((kconc (ps.take j)).length:Int)) (fun _ _ i=>n-(intOf i).toNat)
 case atStart=>exact⟨0,by omega,rfl,rfl⟩
 case round=>
  obtain⟨j,hj,rfl,rfl⟩:=hrel
  by_cases hlt:j<ps.length
  ·have hlt2:(j:Int)<n:=by omega
   have c0:=HC.out j hlt
   have hs:=congrArg List.length (kconc_succ ps j hlt)
   rw[List.length_append]at hs
   have h1:=hcl (j+1)
   unfold kpartV at c0
   generalize ps[j]=p at*
   obtain⟨pA,pk,pl⟩:=p
   simp only at c0 hs
   have HS:=Lib.hid hs
   have hb1:((kconc (ps.take j)).length:Int)+pl.length<=1000000:=by omega
   have hb0:(0:Int)<=((kconc (ps.take j)).length:Int)+pl.length:=by omega
   clear hs
   generalize (kconc (ps.take j)).length=s1 at*
   go_wp2
   go_round
   case rel=>exact⟨j+1,by omega,by go_num,by rw[HS.out];go_num⟩
   case measure=>simp[intOf];omega
  ·obtain rfl:j=ps.length:=by omega
   have hge:(n:Int)<=ps.length:=by omega
   have hal:kconc (ps.take ps.length)=kconc ps:=by rw[List.take_of_length_le (Nat.le_refl _)]
   rw[hal]
   have hgr:=kgrow_nil (kconc ps).length w (by omega)
   have HG:=Lib.hid hgr
   clear hgr
   have HAL:=Lib.hid hal
   clear hal
   go_wp2_with fail
   refine HG.out.mono ?_
   rintro e w2 ⟨v,rfl,ho2,hb2⟩
   go_wp2
   go_loopw [6,8,27] (fun v _ i wr=>∃j:Nat,j<=ps.length/\i= .int .i64 j/\Below w.heap.size w2 wr/\LO keyE 9 wr w.heap.size v (kconc (ps.take j))) (fun _ _ i _=>n-(intOf i).toNat)
   case atStart=>exact⟨0,by omega,rfl,Below.refl _ _,ho2⟩
   case round=>
    obtain⟨j,hj,rfl,hbw,hown⟩:=hrel
    have hzz:w.heap.size<=wr.heap.size:=Nat.le_trans hb2.size hbw.size
    have hbz:=hb2.trans hbw
    by_cases hlt:j<ps.length
    ·have hlt2:(j:Int)<n:=by omega
     have c0:=(hbz.cell (p:=⟨g,j,none⟩) hgl).trans (HC.out j hlt)
     have hls:=HLS.out _ (List.getElem_mem hlt)
     have hcs:=kconc_succ ps j hlt
     have h1:=hcl (j+1)
     rw[hcs,List.length_append]at h1
     unfold kpartV at c0
     have HCS:=Lib.hid hcs
     clear hcs
     generalize ps[j]=p at*
     obtain⟨pA,pk,pl⟩:=p
     simp only at c0 hls h1 HCS
     have s1:LS keyE wr wr.heap.size pA pl:=(hls.below hbz).more hzz
     generalize kconc (ps.take j)=cj at*
     have hraw:=hown.raw rfl (s:=1) rfl
     have hgw:g<wr.heap.size:=by omega
     go_wp2_with (at_builtin;refine wpList_appN rfl (.tmp 31) (.tmp 32) 30 rfl eiKey Tryz.underlying30 rfl (by decide) rfl hraw rfl s1 (keyE.cells_all _) (by unfold maxLen;omega) (by omega) hzz ?_;intro v' w3 hown' hgrow hbel)
     go_roundw
     case rel=>
      refine⟨j+1,by omega,by go_num,hbw.trans hbel, ?_⟩
      rw[HCS.out]
      unfold LO
      rw[keyE.cells_append,List.length_append];exact hown'
     case measure=>simp[intOf];omega
    ·obtain rfl:j=ps.length:=by omega
     go_wp2
     go_ret
     exact⟨_,rfl,by rw[HO.out, <-HAL.out];exact hown,hbz⟩
theorem eglue_any(g n:Nat)(ps:List Part)(hn:ps.length=n)(hn2:n<=10)(w:World)(hB:Blk w g 28 (ps.map partV).toArray)(hls:∀p∈ps,LS entE w w.heap.size p.1 p.2.2)(hl:(conc ps).length<=1000000):
  Calls Tryz.prog 243 #[.slice (some ⟨g,0,none⟩) n n] w (LEnd entE 34 (conc ps) w):=by
 have hC:=hid_calls (econcat_any g n ps hn hn2 w hB hls hl)
 obtain⟨o,ho⟩:∃o,o=conc ps:=⟨_,rfl⟩
 rw[<-ho]at hC ⊢
 clear ho hB hls hl hn
 go_enter Tryz.func243,Tryz.ntmps243
 go_wp2_with fail
 refine hC.out.mono ?_
 rintro e w1 ⟨v,rfl,ho,hb⟩
 go_wp2
 go_ret
 exact⟨v,rfl,ho,hb⟩
theorem iglue_any(g n:Nat)(ps:List IPart)(hn:ps.length=n)(hn2:n<=10)(w:World)(hB:Blk w g 29 (ps.map ipartV).toArray)(hls:∀p∈ps,LS intE w w.heap.size p.1 p.2.2)(hl:(iconc ps).length<=1000000):
  Calls Tryz.prog 244 #[.slice (some ⟨g,0,none⟩) n n] w (LEnd intE 3 (iconc ps) w):=by
 have hC:=hid_calls (iconcat_any g n ps hn hn2 w hB hls hl)
 obtain⟨o,ho⟩:∃o,o=iconc ps:=⟨_,rfl⟩
 rw[<-ho]at hC ⊢
 clear ho hB hls hl hn
 go_enter Tryz.func244,Tryz.ntmps244
 go_wp2_with fail
 refine hC.out.mono ?_
 rintro e w1 ⟨v,rfl,ho,hb⟩
 go_wp2
 go_ret
 exact⟨v,rfl,ho,hb⟩
theorem kglue_any(g n:Nat)(ps:List KPart)(hn:ps.length=n)(hn2:n<=10)(w:World)(hB:Blk w g 30 (ps.map kpartV).toArray)(hls:∀p∈ps,LS keyE w w.heap.size p.1 p.2.2)(hl:(kconc ps).length<=1000000):
  Calls Tryz.prog 245 #[.slice (some ⟨g,0,none⟩) n n] w (LEnd keyE 9 (kconc ps) w):=by
 have hC:=hid_calls (kconcat_any g n ps hn hn2 w hB hls hl)
 obtain⟨o,ho⟩:∃o,o=kconc ps:=⟨_,rfl⟩
 rw[<-ho]at hC ⊢
 clear ho hB hls hl hn
 go_enter Tryz.func245,Tryz.ntmps245
 go_wp2_with fail
 refine hC.out.mono ?_
 rintro e w1 ⟨v,rfl,ho,hb⟩
 go_wp2
 go_ret
 exact⟨v,rfl,ho,hb⟩
end Go.Proofs.YtjoiajmbfbjnnaaGreatDoor
