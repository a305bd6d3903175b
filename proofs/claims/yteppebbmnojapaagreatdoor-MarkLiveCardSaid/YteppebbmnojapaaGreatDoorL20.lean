/- Part of this proof. -/
import Derived.Test.YteppebbmnojapaaGreatDoorL18
import Derived.Test.YteppebbmnojapaaGreatDoorL19
set_option maxRecDepth 100000
set_option maxHeartbeats 8000000
namespace Go.Proofs.YteppebbmnojapaaGreatDoor
open Go.RowKit Go.Shelf
def keyE:Enc ByteArray:=⟨fun s=> [.string s],1,fun _=>rfl,by decide,fun x u hu=>by simp at hu;subst hu;rfl⟩
theorem Jy:EI Tryz.prog 9 (.string ⟨#[]⟩) 1 16:=EI.mk (by kernel_rfl)
theorem RV(n:Nat)(w:World)(hn:n<=4000000):Calls Tryz.prog 321 #[.slice none 0 0, .int .i64 n] w (qH aV 3 [] w):=by
 obtain⟨i0,hi,hz0,hz1,hz2⟩:=wL
 by_cases h0:n=0
 ·subst h0
  refine Calls.mono (Any8.slices_Grow_room Tryz.growInt none 0 0 0 w (by omega) (by omega) (by omega) (by omega)) ?_
  rintro e w' ⟨rfl,hw⟩
  subst hw
  exact⟨_,rfl,LO.nil_ _ _,Below.refl _ _⟩
 ·refine Calls.mono (Any8.slices_Grow_grow Tryz.growInt i0 _ hi hz0 (by omega) none 0 0 n [] w (by omega) (by omega) (by rw[hz2];omega) (by omega) (by simp) (fun _=>rfl) (fun a h=>by cases h)) ?_
  rintro e w' ⟨rfl,rfl⟩
  refine⟨_,rfl, ?_,((Below.refl _ _).drew).alloc (Nat.le_refl _) _⟩
  refine World.ownsRow_made (base:=w.heap.size) (e:=3) (size:=1) w.drew _ _ (Nat.le_refl _) (grownCap_le_maxLen w _ _ _ (by unfold maxLen;omega)) ?_
  rw[Array.size_append,Array.size_append,size_zeroCells,size_zeroCells]
  have h:=grownCap_ge w (0+n) 0 3
  have e1:(Value.int .i64 0:Value).cells.size=1:=rfl
  have e2:Tryz.growInt_ren.t 25=3:=rfl
  rw[e1,e2]
  simp only[Nat.zero_add]at h ⊢
  simp
  omega
abbrev Fb:=Option Addr × Nat × List Int
def cZ(ps:List Fb):List Int:=ps.flatMap (·.2.2)
def BG(p:Fb):Value:= .slice p.1 p.2.2.length p.2.1
theorem BH(ps:List Fb)(j:Nat)(hj:j<ps.length):cZ (ps.take (j+1))=cZ (ps.take j)++ps[j].2.2:=by
 unfold cZ;rw[List.take_succ_eq_append_getElem hj,List.flatMap_append];simp
theorem RX(ps:List Fb)(j:Nat):(cZ (ps.take j)).length<=(cZ ps).length:=by
 have e:cZ ps=cZ (ps.take j)++cZ (ps.drop j):=by unfold cZ;rw[<-List.flatMap_append,List.take_append_drop]
 rw[e,List.length_append];omega
theorem Jz(g n:Nat)(ps:List Fb)(hn:ps.length=n)(hn2:n<=10)(w:World)(hB:Blk w g 49 (ps.map BG).toArray)(hls:∀p∈ps,LS aV w w.heap.size p.1 p.2.2)(hl:(cZ ps).length<=1000000):
  Calls Tryz.prog 316 #[.slice (some ⟨g,0,none⟩) n n] w (qH aV 3 (cZ ps) w):=by
 obtain⟨o,ho⟩:∃o,o=cZ ps:=⟨_,rfl⟩
 rw[<-ho]
 have HO:=Lib.hid ho
 have HLS:=Lib.hid hls
 have HN:=Lib.hid hn
 have hnp:ps.length<=10:=by omega
 have adn:ps.length<=n:=by omega
 have ado:n<=ps.length:=by omega
 have hcell:∀j (hj:j<ps.length),w.cell? ⟨g,j,none⟩=some (BG ps[j]):=fun j hj=>by
  rw[hB.cell j];simp[hj]
 have HC:=Lib.hid hcell
 have hgl:=hB.lt
 have hcl:=fun j=>RX ps j
 clear ho hls hn hcell hB
 go_enter Tryz.func316,Tryz.ntmps316
 go_wp2
 go_loop [3,5,11] (fun s _ i=>∃j:Nat,j<=ps.length/\i= .int .i64 j/\s= .int .i64 ((cZ (ps.take j)).length:Int)) (fun _ _ i=>n-(intOf i).toNat)
 case atStart=>exact⟨0,by omega,rfl,rfl⟩
 case round=>
  obtain⟨j,hj,rfl,rfl⟩:=hrel
  by_cases hlt:j<ps.length
  ·have hlt2:(j:Int)<n:=by omega
   have c0:=HC.out j hlt
   have hs:=congrArg List.length (BH ps j hlt)
   rw[List.length_append]at hs
   have h1:=hcl (j+1)
   unfold BG at c0
   generalize ps[j]=p at*
   obtain⟨pA,pk,pl⟩:=p
   simp only at c0 hs
   have HS:=Lib.hid hs
   have hb1:((cZ (ps.take j)).length:Int)+pl.length<=1000000:=by omega
   have hb0:(0:Int)<=((cZ (ps.take j)).length:Int)+pl.length:=by omega
   clear hs
   generalize (cZ (ps.take j)).length=s1 at*
   go_wp2
   go_round
   case rel=>exact⟨j+1,by omega,by go_num,by rw[HS.out];go_num⟩
   case measure=>simp[intOf];omega
  ·obtain rfl:j=ps.length:=by omega
   have hge:(n:Int)<=ps.length:=by omega
   have hal:cZ (ps.take ps.length)=cZ ps:=by rw[List.take_of_length_le (Nat.le_refl _)]
   rw[hal]
   have hgr:=RV (cZ ps).length w (by omega)
   have HG:=Lib.hid hgr
   clear hgr
   have HAL:=Lib.hid hal
   clear hal
   go_wp2_with fail
   refine HG.out.mono ?_
   rintro e w2 ⟨v,rfl,ho2,hb2⟩
   go_wp2
   go_loopw [6,8,27] (fun v _ i wr=>∃j:Nat,j<=ps.length/\i= .int .i64 j/\Below w.heap.size w2 wr/\LO aV 3 wr w.heap.size v (cZ (ps.take j))) (fun _ _ i _=>n-(intOf i).toNat)
   case atStart=>exact⟨0,by omega,rfl,Below.refl _ _,ho2⟩
   case round=>
    obtain⟨j,hj,rfl,hbw,hown⟩:=hrel
    have hzz:w.heap.size<=wr.heap.size:=Nat.le_trans hb2.size hbw.size
    have hbz:=hb2.trans hbw
    by_cases hlt:j<ps.length
    ·have hlt2:(j:Int)<n:=by omega
     have c0:=(hbz.cell (p:=⟨g,j,none⟩) hgl).trans (HC.out j hlt)
     have hls:=HLS.out _ (List.getElem_mem hlt)
     have hcs:=BH ps j hlt
     have h1:=hcl (j+1)
     rw[hcs,List.length_append]at h1
     unfold BG at c0
     have HCS:=Lib.hid hcs
     clear hcs
     generalize ps[j]=p at*
     obtain⟨pA,pk,pl⟩:=p
     simp only at c0 hls h1 HCS
     have s1:LS aV wr wr.heap.size pA pl:=(hls.below hbz).more hzz
     generalize cZ (ps.take j)=cj at*
     have hraw:=hown.raw rfl (s:=1) rfl
     have hgw:g<wr.heap.size:=by omega
     go_wp2_with (at_builtin;refine gQ rfl (.tmp 31) (.tmp 32) 49 rfl wL Tryz.underlying49 rfl (by decide) rfl hraw rfl s1 (aV.jv _) (by unfold maxLen;omega) (by omega) hzz ?_;intro v' w3 hown' hgrow hbel)
     go_roundw
     case rel=>
      refine⟨j+1,by omega,by go_num,hbw.trans hbel, ?_⟩
      rw[HCS.out]
      unfold LO
      rw[aV.dS,List.length_append];exact hown'
     case measure=>simp[intOf];omega
    ·obtain rfl:j=ps.length:=by omega
     go_wp2
     go_ret
     exact⟨_,rfl,by rw[HO.out, <-HAL.out];exact hown,hbz⟩
theorem RY(n:Nat)(w:World)(hn:n<=4000000):Calls Tryz.prog 322 #[.slice none 0 0, .int .i64 n] w (qH keyE 9 [] w):=by
 obtain⟨i0,hi,hz0,hz1,hz2⟩:=Jy
 by_cases h0:n=0
 ·subst h0
  refine Calls.mono (Any8.slices_Grow_room Tryz.growStr none 0 0 0 w (by omega) (by omega) (by omega) (by omega)) ?_
  rintro e w' ⟨rfl,hw⟩
  subst hw
  exact⟨_,rfl,LO.nil_ _ _,Below.refl _ _⟩
 ·refine Calls.mono (Any8.slices_Grow_grow Tryz.growStr i0 _ hi hz0 (by omega) none 0 0 n [] w (by omega) (by omega) (by rw[hz2];omega) (by omega) (by simp) (fun _=>rfl) (fun a h=>by cases h)) ?_
  rintro e w' ⟨rfl,rfl⟩
  refine⟨_,rfl, ?_,((Below.refl _ _).drew).alloc (Nat.le_refl _) _⟩
  refine World.ownsRow_made (base:=w.heap.size) (e:=9) (size:=1) w.drew _ _ (Nat.le_refl _) (grownCap_le_maxLen w _ _ _ (by unfold maxLen;omega)) ?_
  rw[Array.size_append,Array.size_append,size_zeroCells,size_zeroCells]
  have h:=grownCap_ge w (0+n) 0 9
  have e1:(Value.string ⟨#[]⟩:Value).cells.size=1:=rfl
  have e2:Tryz.growStr_ren.t 25=9:=rfl
  rw[e1,e2]
  simp only[Nat.zero_add]at h ⊢
  simp
  omega
abbrev Fe:=Option Addr × Nat × List ByteArray
def dh(ps:List Fe):List ByteArray:=ps.flatMap (·.2.2)
def BI(p:Fe):Value:= .slice p.1 p.2.2.length p.2.1
theorem BJ(ps:List Fe)(j:Nat)(hj:j<ps.length):dh (ps.take (j+1))=dh (ps.take j)++ps[j].2.2:=by
 unfold dh;rw[List.take_succ_eq_append_getElem hj,List.flatMap_append];simp
theorem RZ(ps:List Fe)(j:Nat):(dh (ps.take j)).length<=(dh ps).length:=by
 have e:dh ps=dh (ps.take j)++dh (ps.drop j):=by unfold dh;rw[<-List.flatMap_append,List.take_append_drop]
 rw[e,List.length_append];omega
theorem JA(g n:Nat)(ps:List Fe)(hn:ps.length=n)(hn2:n<=10)(w:World)(hB:Blk w g 107 (ps.map BI).toArray)(hls:∀p∈ps,LS keyE w w.heap.size p.1 p.2.2)(hl:(dh ps).length<=1000000):
  Calls Tryz.prog 317 #[.slice (some ⟨g,0,none⟩) n n] w (qH keyE 9 (dh ps) w):=by
 obtain⟨o,ho⟩:∃o,o=dh ps:=⟨_,rfl⟩
 rw[<-ho]
 have HO:=Lib.hid ho
 have HLS:=Lib.hid hls
 have HN:=Lib.hid hn
 have hnp:ps.length<=10:=by omega
 have adn:ps.length<=n:=by omega
 have ado:n<=ps.length:=by omega
 have hcell:∀j (hj:j<ps.length),w.cell? ⟨g,j,none⟩=some (BI ps[j]):=fun j hj=>by
  rw[hB.cell j];simp[hj]
 have HC:=Lib.hid hcell
 have hgl:=hB.lt
 have hcl:=fun j=>RZ ps j
 clear ho hls hn hcell hB
 go_enter Tryz.func317,Tryz.ntmps317
 go_wp2
 go_loop [3,5,11] (fun s _ i=>∃j:Nat,j<=ps.length/\i= .int .i64 j/\s= .int .i64 ((dh (ps.take j)).length:Int)) (fun _ _ i=>n-(intOf i).toNat)
 case atStart=>exact⟨0,by omega,rfl,rfl⟩
 case round=>
  obtain⟨j,hj,rfl,rfl⟩:=hrel
  by_cases hlt:j<ps.length
  ·have hlt2:(j:Int)<n:=by omega
   have c0:=HC.out j hlt
   have hs:=congrArg List.length (BJ ps j hlt)
   rw[List.length_append]at hs
   have h1:=hcl (j+1)
   unfold BI at c0
   generalize ps[j]=p at*
   obtain⟨pA,pk,pl⟩:=p
   simp only at c0 hs
   have HS:=Lib.hid hs
   have hb1:((dh (ps.take j)).length:Int)+pl.length<=1000000:=by omega
   have hb0:(0:Int)<=((dh (ps.take j)).length:Int)+pl.length:=by omega
   clear hs
   generalize (dh (ps.take j)).length=s1 at*
   go_wp2
   go_round
   case rel=>exact⟨j+1,by omega,by go_num,by rw[HS.out];go_num⟩
   case measure=>simp[intOf];omega
  ·obtain rfl:j=ps.length:=by omega
   have hge:(n:Int)<=ps.length:=by omega
   have hal:dh (ps.take ps.length)=dh ps:=by rw[List.take_of_length_le (Nat.le_refl _)]
   rw[hal]
   have hgr:=RY (dh ps).length w (by omega)
   have HG:=Lib.hid hgr
   clear hgr
   have HAL:=Lib.hid hal
   clear hal
   go_wp2_with fail
   refine HG.out.mono ?_
   rintro e w2 ⟨v,rfl,ho2,hb2⟩
   go_wp2
   go_loopw [6,8,27] (fun v _ i wr=>∃j:Nat,j<=ps.length/\i= .int .i64 j/\Below w.heap.size w2 wr/\LO keyE 9 wr w.heap.size v (dh (ps.take j))) (fun _ _ i _=>n-(intOf i).toNat)
   case atStart=>exact⟨0,by omega,rfl,Below.refl _ _,ho2⟩
   case round=>
    obtain⟨j,hj,rfl,hbw,hown⟩:=hrel
    have hzz:w.heap.size<=wr.heap.size:=Nat.le_trans hb2.size hbw.size
    have hbz:=hb2.trans hbw
    by_cases hlt:j<ps.length
    ·have hlt2:(j:Int)<n:=by omega
     have c0:=(hbz.cell (p:=⟨g,j,none⟩) hgl).trans (HC.out j hlt)
     have hls:=HLS.out _ (List.getElem_mem hlt)
     have hcs:=BJ ps j hlt
     have h1:=hcl (j+1)
     rw[hcs,List.length_append]at h1
     unfold BI at c0
     have HCS:=Lib.hid hcs
     clear hcs
     generalize ps[j]=p at*
     obtain⟨pA,pk,pl⟩:=p
     simp only at c0 hls h1 HCS
     have s1:LS keyE wr wr.heap.size pA pl:=(hls.below hbz).more hzz
     generalize dh (ps.take j)=cj at*
     have hraw:=hown.raw rfl (s:=1) rfl
     have hgw:g<wr.heap.size:=by omega
     go_wp2_with (at_builtin;refine gQ rfl (.tmp 31) (.tmp 32) 107 rfl Jy Tryz.underlying107 rfl (by decide) rfl hraw rfl s1 (keyE.jv _) (by unfold maxLen;omega) (by omega) hzz ?_;intro v' w3 hown' hgrow hbel)
     go_roundw
     case rel=>
      refine⟨j+1,by omega,by go_num,hbw.trans hbel, ?_⟩
      rw[HCS.out]
      unfold LO
      rw[keyE.dS,List.length_append];exact hown'
     case measure=>simp[intOf];omega
    ·obtain rfl:j=ps.length:=by omega
     go_wp2
     go_ret
     exact⟨_,rfl,by rw[HO.out, <-HAL.out];exact hown,hbz⟩
theorem oQ(g n:Nat)(ps:List Part)(hn:ps.length=n)(hn2:n<=10)(w:World)(hB:Blk w g 22 (ps.map Jj).toArray)(hls:∀p∈ps,LS bD w w.heap.size p.1 p.2.2)(hl:(ig ps).length<=1000000):
  Calls Tryz.prog 300 #[.slice (some ⟨g,0,none⟩) n n] w (qH bD 101 (ig ps) w):=by
 have hC:=ak (qR g n ps hn hn2 w hB hls hl)
 obtain⟨o,ho⟩:∃o,o=ig ps:=⟨_,rfl⟩
 rw[<-ho]at hC ⊢
 clear ho hB hls hl hn
 go_enter Tryz.func300,Tryz.ntmps300
 go_wp2_with fail
 refine hC.out.mono ?_
 rintro e w1 ⟨v,rfl,ho,hb⟩
 go_wp2
 go_ret
 exact⟨v,rfl,ho,hb⟩
theorem jy(g n:Nat)(ps:List Fb)(hn:ps.length=n)(hn2:n<=10)(w:World)(hB:Blk w g 49 (ps.map BG).toArray)(hls:∀p∈ps,LS aV w w.heap.size p.1 p.2.2)(hl:(cZ ps).length<=1000000):
  Calls Tryz.prog 301 #[.slice (some ⟨g,0,none⟩) n n] w (qH aV 3 (cZ ps) w):=by
 have hC:=ak (Jz g n ps hn hn2 w hB hls hl)
 obtain⟨o,ho⟩:∃o,o=cZ ps:=⟨_,rfl⟩
 rw[<-ho]at hC ⊢
 clear ho hB hls hl hn
 go_enter Tryz.func301,Tryz.ntmps301
 go_wp2_with fail
 refine hC.out.mono ?_
 rintro e w1 ⟨v,rfl,ho,hb⟩
 go_wp2
 go_ret
 exact⟨v,rfl,ho,hb⟩
theorem jA(g n:Nat)(ps:List Fe)(hn:ps.length=n)(hn2:n<=10)(w:World)(hB:Blk w g 107 (ps.map BI).toArray)(hls:∀p∈ps,LS keyE w w.heap.size p.1 p.2.2)(hl:(dh ps).length<=1000000):
  Calls Tryz.prog 302 #[.slice (some ⟨g,0,none⟩) n n] w (qH keyE 9 (dh ps) w):=by
 have hC:=ak (JA g n ps hn hn2 w hB hls hl)
 obtain⟨o,ho⟩:∃o,o=dh ps:=⟨_,rfl⟩
 rw[<-ho]at hC ⊢
 clear ho hB hls hl hn
 go_enter Tryz.func302,Tryz.ntmps302
 go_wp2_with fail
 refine hC.out.mono ?_
 rintro e w1 ⟨v,rfl,ho,hb⟩
 go_wp2
 go_ret
 exact⟨v,rfl,ho,hb⟩
end Go.Proofs.YteppebbmnojapaaGreatDoor
