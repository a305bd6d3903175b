/- Part of this proof. -/
import Derived.RangeFuncBox
import Derived.Deep.RegionWith
import Derived.Test.YteppebbmnojapaaGreatDoorL16
import Derived.Test.YteppebbmnojapaaGreatDoorL17
set_option maxRecDepth 100000
set_option maxHeartbeats 8000000
namespace Go.Proofs.YteppebbmnojapaaGreatDoor
open Go.RowKit Go.Shelf
attribute [local go_sem] Oper.semAt_some
def aV:Enc Int:=⟨fun x=> [.int .i64 x],1,fun _=>rfl,by decide,fun x u hu=>by simp at hu;subst hu;rfl⟩
theorem wL:EI Tryz.prog 3 (.int .i64 0) 1 8:=EI.mk (by kernel_rfl)
theorem LS.int{w:World}{B:Nat}{A:Option Addr}{l:List Int}(h:LS aV w B A l){k:Nat}(hk:k<l.length):∃b off,A=some ⟨b,off,none⟩/\b<B/\w.cell? ⟨b,off+k,none⟩=some (.int .i64 l[k]):=by
 obtain⟨b,off,rfl,hb,hc⟩:=h.at_ hk
 have h0:=hc 0 (by decide)
 refine⟨b,off,rfl,hb, ?_⟩
 have e:off+k*aV.size+0=off+k:=by show off+k*1+0=_;omega
 rw[e]at h0
 exact h0
theorem Bz(A:Option Addr)(n c:Nat)(w:World):
  Calls Tryz.prog 90 #[.slice A n c] w fun e w'=>e= .returned (.func (.func 165) #[] #[.pointer (some ⟨w.heap.size,0,none⟩)])/\w'=w.alloc (.cells #[.slice A n c] 49):=by
 go_enter Tryz.func90,Tryz.ntmps90
 go_wp2
 go_ret
 exact⟨rfl,rfl⟩
theorem values1_in(l Bn c:Nat)(A:Option Addr)(zs:List Int)(hl:zs.length<=1000000)(J Jx:List Int->World->Prop)(Kp:World->World->Prop)
  (W:World) (hKr:∀W,Kp W W) (hKt:∀W1 W2 W3,Kp W1 W2->Kp W2 W3->Kp W1 W3) (hKc:∀W',Kp W W'->LS aV W' W'.heap.size A zs/\W'.cell? ⟨Bn,0,none⟩=some (.slice A zs.length c))
  (hY:∀pre x W1,J pre W1->pre.length<zs.length->YieldAt Fence.wide 0 Tryz.prog l #[.int .i64 x] W1 fun e W'=>
   (e= .returned (.bool true)/\J (pre++ [x]) W'/\Kp W1 W')\/(e= .returned (.bool false)/\Jx (pre++ [x]) W')) (h0:J [] W):
  CallsIn Fence.wide 1 Tryz.prog 165 #[.func (.yield l) #[] #[], .pointer (some ⟨Bn,0,none⟩)] W fun e W'=>(∃v,e= .returned v)/\
   ((∃ys,ys=zs/\J ys W')\/(∃pre,pre <+: zs/\Jx pre W')):=by
 refine callsIn_of_wp Tryz.func165 rfl trivial ?_ rfl
 simp only[Tryz.ntmps165,List.size_toArray,List.length_cons,List.length_nil,Nat.reduceAdd,Nat.reduceSub,Array.replicate_succ,Array.replicate_zero,List.push_toArray,List.append_toArray,List.nil_append,List.cons_append]
 have hc0:=(hKc W (hKr W)).2
 gi_wp2
 gi_loopw [7] (fun i wr=>∃k:Nat,k<=zs.length/\i= .int .i64 k/\J (zs.take k) wr/\Kp W wr) (fun i _=>zs.length-(intOf i).toNat)
 case atStart=>exact⟨0,Nat.zero_le _,rfl,by simpa using h0,hKr W⟩
 case round=>
  obtain⟨k,hk,rfl,hJs,hkp⟩:=hrel
  obtain⟨hls,hbn⟩:=hKc _ hkp
  by_cases hlt:k<zs.length
  ·obtain⟨b2,o2,rfl,hb2,g0⟩:=hls.int hlt
   have hdt:=List.take_succ_eq_append_getElem hlt
   have hpl:(zs.take k).length<zs.length:=by rw[List.length_take];omega
   have hpx:zs.take (k+1) <+: zs:=List.take_prefix _ _
   have hYk:=hY _ zs[k] _ hJs hpl
   obtain⟨fn,tmps,assign,body,hyl,hR⟩:=hYk
   rw[<-hdt]at hR
   clear hdt
   generalize zs[k]=y at*
   gi_wp2
   refine hR.mono ?_
   rintro e W3 (⟨rfl,hJ3,hk3⟩ | ⟨rfl,hJx3⟩)
   ·gi_wp2
    go_roundw
    case rel=>exact⟨k+1,by omega,by go_num,hJ3,hKt _ _ _ hkp hk3⟩
    case measure=>simp[intOf];omega
   ·gi_wp2
    refine bodyPost_ret (results_none rfl _ _ _) rfl ?_
    exact⟨⟨_,rfl⟩, .inr ⟨_,hpx,hJx3⟩⟩
  ·obtain rfl:k=zs.length:=by omega
   gi_wp2
   go_end0
   rw[List.take_of_length_le (Nat.le_refl _)]at hJs
   exact⟨⟨_,rfl⟩, .inl ⟨_,rfl,hJs⟩⟩
end Go.Proofs.YteppebbmnojapaaGreatDoor
namespace Go.Proofs.YteppebbmnojapaaGreatDoor
open Go.RowKit Go.Shelf Go.Maps
theorem abo(m:Nat):AnyZI.SortsIn Tryz.prog Tryz.sortedC_ren Fence.wide m:=
 ⟨fun blk off cap ss W hH hblk hsz=>callsIn_wide.2 (AnyM.slices_Sort_int Tryz.sortC blk off cap ss W hH hblk hsz),
  fun p cap W=>callsIn_wide.2 (AnyM.slices_Sort_int_none Tryz.sortC p cap W)⟩
theorem Nz(l:List Int):aV.cells l=l.map (Value.int .i64):=by
 induction l with
 |nil=>rfl
 |cons a l ih=>rw[aV.dB,ih];rfl
def RQ(D:DataW Value)(w:World)(e:Ending)(w':World):Prop:=∃A c ss,e= .returned (.slice A ss.length c)/\ss.Perm (intKeys D)/\ss.length=Maps.size D/\LO aV 3 w' w.heap.size (.slice A ss.length c) ss/\Below w.heap.size w w'
theorem BA(t m f n k:Nat)(free:List Run)(pages:Int)(D:DataW Value)(w:World)(hk:k<=1000000)(h:Txn w t m f n free pages k D):
  Calls Tryz.prog 67 #[.pointer (some ⟨t,0,none⟩)] w (RQ D w):=by
 obtain⟨_,⟨v,h2,h3⟩,hown⟩:=h
 have hlt:=h2.lt
 have hc:=h2.cell 3
 have hsz:=hown.size_le
 have hlen:(intKeys D).length=Maps.size D:=by
  obtain⟨es,rfl⟩:=hown.isMap
  simp[intKeys,Maps.size]
 refine(callsIn_wide (n:=6)).1 ?_
 have hbl:=hown.lt
 have hseq:SeqGives Fence.wide 2 Tryz.prog 207 #[.pointer (some ⟨w.heap.size,0,none⟩)] encZ (fun ss=>ss.Perm (intKeys D)) (Maps.size D) (w.alloc (.cells #[.map (some m)] 120)):=
  AnyZI.keys_gives (ρ:=Tryz.keysC_ren) { Tryz.keysC with } Fence.wide _ trivial rfl (by omega) w.heap.size m k D _ (by simp) (by simp) (by
   obtain⟨es,clock,hb,Ft,hs,hD⟩:=hown
   exact⟨es,clock,(Below.heap_alloc _ _ m hbl).trans hb,Ft,hs,hD⟩)
 have cK:∀mb W,CallsIn Fence.wide 5 Tryz.prog 137 #[.map mb] W fun e w'=>e= .returned (.func (.func 207) #[] #[.pointer (some ⟨W.heap.size,0,none⟩)])/\w'=W.alloc (.cells #[.map mb] 120):=fun mb W=>AnyZI.keys_in Tryz.keysC Fence.wide 5 trivial rfl mb W
 have cS:=AnyZI.sorted_in Tryz.sortedC Fence.wide 5 trivial trivial trivial trivial rfl (by omega) (abo _) (enters_of Tryz.func110 (by kernel_rfl) rfl) 207 #[.pointer (some ⟨w.heap.size,0,none⟩)] trivial (enters_of Tryz.func207 (by kernel_rfl) rfl) _ _ (by unfold maxLen;omega) (by omega) _ hseq
 change CallsIn _ _ Tryz.prog 89 _ _ _ at cS
 have hfK:Fence.wide.fn 137:=trivial
 have hfS:Fence.wide.fn 89:=trivial
 refine callsIn_of_wp Tryz.func67 rfl trivial ?_ rfl
 simp only[Tryz.ntmps67,List.size_toArray,List.length_cons,List.length_nil,Nat.reduceAdd,Nat.reduceSub,Array.replicate_succ,Array.replicate_zero,List.push_toArray,List.append_toArray,List.nil_append,List.cons_append]
 gi_wp2_with (first
  |(gi_at_call 137;refine(cK _ _).mono ?_;rintro e w' ⟨rfl,rfl⟩)
  |(gi_at_call 89;refine cS.mono ?_;rintro e w' ⟨v,ss,rfl,hS,hrow,hnil,hb⟩))
 go_ret
 have hl:ss.length=Maps.size D:=hS.length_eq.trans hlen
 have hb0:Below w.heap.size w w':=((Below.refl _ w).alloc (Nat.le_refl _) _).trans (hb.mono (by simp))
 have hzl:(ss.mergeSort fun x y=>decide (x<=y)).length=ss.length:=List.length_mergeSort ss
 have hzp:(ss.mergeSort fun x y=>decide (x<=y)).Perm (intKeys D):=(List.mergeSort_perm ss _).trans hS
 have hLO:LO aV 3 w' w.heap.size v (ss.mergeSort fun x y=>decide (x<=y)):=by
  unfold LO
  rw[Nz,hzl]
  exact jw hrow (by simp)
 obtain⟨A,c,rfl⟩:=hLO.form
 exact⟨A,c,_,rfl,hzp,hzl.trans hl,hLO,hb0⟩
end Go.Proofs.YteppebbmnojapaaGreatDoor
namespace Go.Proofs.YteppebbmnojapaaGreatDoor
open Go.RowKit
theorem Ea(k:Nat):∀ (r:Cp.Rd),Cp.bQ (k+1) r=((Cp.bQ k r).1++ [(Cp.bQ k r).2.two.1],(Cp.bQ k r).2.two.2):=by
 induction k with
 |zero=>intro r;simp[Cp.bQ]
 |succ k ih=>
  intro r
  rw[Cp.bQ,ih r.two.2]
  simp[Cp.bQ]
def Wi(o:Option (Int × List Run))(w:World)(e:Ending)(w':World):Prop:=
 ∃ (n:Int) (v:Value) (l:List Run) (x:Int),e= .returned (.tuple #[.int .i64 n,v, .int .i64 x])/\Own w' w.heap.size v l/\Below w.heap.size w w'/\(o=none/\n=0/\l= []/\x=3\/o=some (n,l)/\x=0)
theorem parse_any(s:List UInt8)(w:World):
  Calls Tryz.prog 310 #[.string ⟨s.toArray⟩] w (Wi (Cp.prog s) w):=by
 obtain⟨o,ho⟩:∃o,o=Cp.prog s:=⟨_,rfl⟩
 rw[<-ho]
 have HO:=Lib.hid ho
 clear ho
 have hprog:∀r1 r2:Cp.Rd,r1=((Cp.Rd.mk s 0).int 4).2->r2=(r1.int 2).2->Cp.prog s=if Cp.body ((Cp.Rd.mk s 0).int 4).1 (Cp.bQ (min (r1.int 2).1 29) r2).1=some s then some ((((Cp.Rd.mk s 0).int 4).1:Int),(Cp.bQ (min (r1.int 2).1 29) r2).1)else none:=by
  intro r1 r2 h1 h2;subst h2;subst h1;rfl
 have HP:=Lib.hid hprog
 clear hprog
 go_enter Tryz.func310,Tryz.ntmps310
 go_wp2_with fail
 refine(mM s _).mono ?_
 rintro e w1 ⟨rfl,hw1⟩
 have hB0:Blk w1 w.heap.size 372 (aH ⟨s,0⟩):=by rw[hw1];exact Blk.new _ _ _
 have hb0:Below w.heap.size w w1:=by rw[hw1];exact(Below.refl _ _).alloc (Nat.le_refl _) _
 clear hw1
 go_wp2_with fail
 refine(fH w.heap.size ⟨s,0⟩ 4 _ hB0 (by omega)).mono ?_
 generalize hn1:((Cp.Rd.mk s 0).int 4).1=next
 generalize hr1:((Cp.Rd.mk s 0).int 4).2=r1
 have HN:=Lib.hid hn1
 have HR1:=Lib.hid hr1
 clear hn1 hr1
 rintro e w2 ⟨rfl,hB1,hg1⟩
 go_wp2_with fail
 refine(fH w.heap.size r1 2 _ hB1 (by omega)).mono ?_
 generalize hn2:(r1.int 2).1=n
 generalize hr2:(r1.int 2).2=r2
 have HN2:=Lib.hid hn2
 have HR2:=Lib.hid hr2
 clear hn2 hr2
 rintro e w3 ⟨rfl,hB2,hg2⟩
 have hbw:Below w.heap.size w w3:=(hb0.grown hg1 hb0.size (fun k e=>by cases e;exact Nat.le_refl _)).grown hg2 (Nat.le_trans hb0.size hg1.size) (fun k e=>by cases e;exact Nat.le_refl _)
 have hz3:w.heap.size<w3.heap.size:=hB2.lt
 obtain⟨m,hm⟩:∃m:Nat,m=min n 29:=⟨_,rfl⟩
 have hmi:min (n:Int) 29=(m:Int):=by omega
 have ahE:m<=29:=by omega
 have HM:=Lib.hid hm
 clear hm
 go_wp2
 go_loopw [8,20] (fun v i wr=>∃k:Nat,k<=m/\i= .int .i64 k/\Own wr w3.heap.size v (Cp.bQ k r2).1/\Blk wr w.heap.size 372 (aH (Cp.bQ k r2).2)/\Below w.heap.size w wr/\w3.heap.size<=wr.heap.size) (fun _ i _=>m-(intOf i).toNat)
 case atStart=>exact⟨0,by omega,rfl,Own.nil_ _ _,hB2,hbw,Nat.le_refl _⟩
 case round=>
  obtain⟨k,hk,rfl,hown,hB,hb,hz⟩:=hrel
  have hlen:=Cp.lF k r2
  by_cases hlt:k<m
  ·have hsn:=Ea k r2
   generalize (Cp.bQ k r2).1=l at*
   generalize (Cp.bQ k r2).2=R at*
   have HSN:=Lib.hid hsn
   clear hsn
   have hle:l.length<=29:=by omega
   have HLEN:=Lib.hid hlen
   clear hlen
   go_wp2_with fail
   refine(fH w.heap.size R 4 _ hB (by omega)).mono ?_
   unfold Cp.Rd.two at HSN
   generalize (R.int 4).1=a at*
   generalize (R.int 4).2=R1 at*
   rintro e w4 ⟨rfl,hB4,hg4⟩
   go_wp2_with fail
   refine(fH w.heap.size R1 4 _ hB4 (by omega)).mono ?_
   generalize (R1.int 4).1=b at*
   generalize (R1.int 4).2=R2 at*
   rintro e w5 ⟨rfl,hB5,hg5⟩
   have Nu:wr.grownBy w5 (some w.heap.size):=hg4.trans hg5
   have hne:u8.ownBlock≠some w.heap.size:=fun e=>by have:=(hown.lt _ e).1;omega
   have hown5:w5.ownsRow w3.heap.size 64 2 u8 l.length (bT l):=World.ownsRow.kept hown Nu (.inr hne)
   have hz5:w3.heap.size<=w5.heap.size:=Nat.le_trans hz Nu.size
   have hb5:Below w.heap.size w w5:=hb.grown Nu hb.size (fun k e=>by cases e;exact Nat.le_refl _)
   go_wp2_with (at_builtin;refine aU rfl _ _ 47 rfl qC Tryz.underlying47 rfl (by decide) rfl hown5 rfl (by simp) rfl (by simp[Value.oneCell']) (by unfold maxLen;omega) (by omega) hz5 ?_;intro v' w6 hown' hgrow hbel _ _)
   go_roundw
   case rel=>
    refine⟨k+1,by omega,by go_num, ?_, ?_,hb5.trans (hbel.mono (by omega)),Nat.le_trans hz5 hbel.size⟩
    ·rw[HSN.out];exact mD (y:=((a:Int),(b:Int))) hown'
    ·rw[HSN.out];exact hB5.below hbel hz3
   case measure=>simp[intOf];omega
  ·obtain rfl:k=m:=by omega
   have hpp:=HP.out r1 r2 HR1.out.symm (by rw[HR2.out])
   rw[HN2.out,HN.out, <-HM.out]at hpp
   generalize (Cp.bQ k r2).1=l at*
   generalize (Cp.bQ k r2).2=R at*
   have HPP:=Lib.hid hpp
   clear hpp
   have hle:l.length<=1000000:=by omega
   have hle2:l.length<=29:=by omega
   have HLE:=Lib.hid hle2
   clear hlen hle2
   obtain⟨A,c,rfl⟩:=hown.form
   have hbody:=Jg (next:Int) A c l wr hown.rs hle
   cases hbd:Cp.body (next:Int) l with
   |none=>
    rw[hbd]at hbody
    have hpn:Cp.prog s=none:=by rw[HPP.out,hbd];simp
    have HPN:=Lib.hid hpn
    have HBD:=Lib.hid hbody
    clear hpn hbody hbd
    go_wp2_with (go_at_call 94;refine HBD.out.mono ?_;rintro e w7 ⟨rfl,hb7⟩;simp only[yP])
    go_ret3
    exact⟨0,_, [],3,rfl,Own.nil_ _ _,hb.trans (hb7.mono hb.size), .inl ⟨by rw[HO.out,HPN.out],rfl,rfl,rfl⟩⟩
   |some S=>
    rw[hbd]at hbody
    have hSl:S.length<=1000:=by have:=Cp.kK hbd;have:=HLE.out;omega
    by_cases hS:S=s
    ·subst hS
     have hpn:Cp.prog S=some ((next:Int),l):=by rw[HPP.out,hbd];simp
     have HPN:=Lib.hid hpn
     have HBD:=Lib.hid hbody
     clear hpn hbody hbd
     go_wp2_with (go_at_call 94;refine HBD.out.mono ?_;rintro e w7 ⟨rfl,hb7⟩;simp only[yP])
     go_ret3
     exact⟨_,_,l,0,rfl,(hown.below hb7).lower (by omega),hb.trans (hb7.mono hb.size), .inr ⟨by rw[HO.out,HPN.out],rfl⟩⟩
    ·have hpn:Cp.prog s=none:=by rw[HPP.out,hbd,if_neg];simpa using hS
     have hne:(S==s)=false:=by simpa using hS
     have HPN:=Lib.hid hpn
     have HBD:=Lib.hid hbody
     clear hpn hbody hbd
     go_wp2_with (go_at_call 94;refine HBD.out.mono ?_;rintro e w7 ⟨rfl,hb7⟩;simp only[yP])
     go_ways
     go_ret3
     exact⟨0,_, [],3,rfl,Own.nil_ _ _,hb.trans (hb7.mono hb.size), .inl ⟨by rw[HO.out,HPN.out],rfl,rfl,rfl⟩⟩
end Go.Proofs.YteppebbmnojapaaGreatDoor
namespace Go.Proofs.YteppebbmnojapaaGreatDoor
open Go.RowKit Go.Shelf
def Fa(t:TypeId):Bool:=t==119||t==117||t==9||t==230
def yU(w w':World):Prop:=∀ (m:Nat) (es:Array MapEntry) (c:Nat),w.heap[m]? =some (.map es c)->w'.heap[m]? =some (.map es c)
theorem yU.trans{a b c:World}(h:yU a b)(h2:yU b c):yU a c:=fun m es t hm=>h2 m es t (h m es t hm)
theorem fO.maps{a b:World}(h:fO a b):yU a b:=fun m _ _ hm=>h m _ hm rfl
structure iI(w w':World):Prop where
 blk:∀ (g:Nat) (t:TypeId) (cs:Array Value),Blk w g t cs->Fa t=true->Blk w' g t cs
 maps:yU w w'
theorem iI.trans{a b c:World}(h:iI a b)(k:iI b c):iI a c:=⟨fun g t cs hb ht=>k.blk g t cs (h.blk g t cs hb ht) ht,h.maps.trans k.maps⟩
theorem iI.grown{w w':World}{g:Nat}{ty:TypeId}{cs:Array Value}(hd:Blk w g ty cs)(ht:Fa ty=false)(hg:w.grownBy w' (some g)):iI w w':=
 ⟨fun i t c hb htt=>hb.grown hg (fun e=>by
  have e:=Option.some.inj e
  subst e
  have:=hb.symm.trans hd
  injection this with this
  injection this with _ this
  subst this
  rw[ht]at htt;cases htt),(fO.grown hd hg).maps⟩
theorem iI.aW{w:World}{g:Nat}{ty:TypeId}{cs:Array Value}(hd:Blk w g ty cs)(ht:Fa ty=false)(j:Nat)(u:Value):iI w (w.setCell ⟨g,j,none⟩ u):=
 iI.grown hd ht (aQ (p:=⟨g,j,none⟩) (World.grownBy.refl w (some g)) (.inl rfl) u)
theorem LO.dX{α:Type}{E:Enc α}{ty:TypeId}{w w':World}{base:Nat}{v:Value}{l:List α}(h:LO E ty w base v l)(hk:iI w w')(ht:Fa ty=true):LO E ty w' base v l:=by
 rcases h with⟨h3,h4 | ⟨g,cap,cur,hv,hb,hh,r⟩⟩
 ·exact⟨h3, .inl h4⟩
 ·exact⟨h3, .inr ⟨g,cap,cur,hv,hb,hk.blk g ty _ hh ht,r⟩⟩
theorem DAt.dX{w w':World}{B d k:Nat}{D:Dk}{s m:Nat}{pv:Value}{Dm:DataW Value}(h:DAt w B d k D s m pv Dm)(hk:iI w w'):DAt w' B d k D s m pv Dm:=
 ⟨h.le,hk.blk _ _ _ h.self (by decide),hk.blk _ _ _ h.sure (by decide),by obtain⟨es,clock,hb,r⟩:=h.map;exact⟨es,clock,hk.maps _ _ _ hb,r⟩,h.now,h.pend.dX hk (by decide)⟩
theorem FAt.dX{w w':World}{B f d k:Nat}{D:Dk}(h:FAt w B f d k D)(hk:iI w w'):FAt w' B f d k D:=
 ⟨h.le,hk.blk _ _ _ h.self (by decide),by obtain⟨s,m,pv,Dm,h2⟩:=h.disk;exact⟨s,m,pv,Dm,h2.dX hk⟩⟩
theorem Kept.far{w w2 w3:World}{g:Nat}(h:Kept w w2)(hg:w2.grownBy w3 (some g))(hge:w.heap.size<=g):Kept w w3:=fun i t cs hb h1 h2=>
 (h i t cs hb h1 h2).grown hg (fun e=>by have:=hb.lt;have:=Option.some.inj e;omega)
theorem fO.far{w w2 w3:World}{g:Nat}(h:fO w w2)(hg:w2.grownBy w3 (some g))(hge:w.heap.size<=g):fO w w3:=fun m o hm hc=>
 (hg.block m (Array.getElem?_eq_some_iff.1 (h m o hm hc)).1 (fun e=>by have:=(Array.getElem?_eq_some_iff.1 hm).1;have:=Option.some.inj e;omega)).trans (h m o hm hc)
theorem mP{w:World}{g:Nat}{a b c:Value}(u0 u1 u2:Value)(h:Blk w g 331 #[a,b,c]):
  Blk (((w.setCell ⟨g,0,none⟩ u0).setCell ⟨g,1,none⟩ u1).setCell ⟨g,2,none⟩ u2) g 331 #[u0,u1,u2]/\w.grownBy (((w.setCell ⟨g,0,none⟩ u0).setCell ⟨g,1,none⟩ u1).setCell ⟨g,2,none⟩ u2) (some g):=by
 refine⟨?_,aQ (p:=⟨g,2,none⟩) (aQ (p:=⟨g,1,none⟩) (aQ (p:=⟨g,0,none⟩) (World.grownBy.refl w (some g)) (.inl rfl) u0) (.inl rfl) u1) (.inl rfl) u2⟩
 have:=((h.aW 0 u0).aW 1 u1).aW 2 u2
 simpa using this
theorem FAt.dlt{w:World}{B f d k:Nat}{D:Dk}(h:FAt w B f d k D):d<w.heap.size:=by
 obtain⟨s,m,pv,Dm,h2⟩:=h.disk
 exact h2.self.lt
theorem mQ{w w':World}{g b j:Nat}(hg:w.grownBy w' (some g))(hb:b<w.heap.size)(hne:¬b=g):w'.cell? ⟨b,j,none⟩=w.cell? ⟨b,j,none⟩:=
 World.cell?_of_block (hg.block b hb (fun e=>hne (Option.some.inj e)))
abbrev Lnk:=Int × List Run × Int
def foP(id:Int)(o:Option (Int × List Run)):Lnk × Int:=match o with
 |none=>((id, [],3),0)
 |some p=>((id,p.2,0),p.1)
def abp(id:Int)(b:Bs)(x:Int):Lnk × Int:=if x=0 then foP id (Cp.prog b)else((0, [],if x=40 then 3 else x),0)
theorem wM{id:Int}{b:Bs}{o:Option (Int × List Run)}(ho:o=Cp.prog b):abp id b 0=foP id o:=by
 rw[ho];exact if_pos rfl
theorem BD{id x:Int}{b:Bs}(h:x≠0):abp id b x=((0, [],if x=40 then 3 else x),0):=if_neg h
def fo(n:Nat)(down:Bool)(id:Int)(o:Option (Nat × Bs)):Lnk × Int:=abp id (frB n down id 3 o).1 (frB n down id 3 o).2
def adw(B f d k:Nat)(y:Lnk × Int)(D':Dk)(w:World)(e:Ending)(w':World):Prop:=∃v,e= .returned (.tuple #[.agg #[.int .i64 y.1.1,v, .int .i64 y.1.2.2], .int .i64 y.2])/\Own w' w.heap.size v y.1.2.1/\FAt w' B f d k D'/\Below B w w'/\Kept w w'/\fO w w'/\w'.cell? ⟨d,1,none⟩=w.cell? ⟨d,1,none⟩
theorem BF{w:World}{B f d k:Nat}{D:Dk}(h:FAt w B f d k D)(hF:Fine D)(hT:HT w)(hB0:1<B)(hB:B<=w.heap.size)(id:Int)(o:Option (Nat × Bs))(ho:aS D.sure.length id=false->D.down=false->iH D id o):
  Calls Tryz.prog 286 #[.pointer (some ⟨f,0,none⟩), .int .i64 id] w (adw B f d k (fo D.sure.length D.down id o) (D.bG id) w):=by
 have hrd:=fun W (hW:FAt W B f d k D) (hTW:HT W) (hBW:B<=W.heap.size)=>RN hW hF hTW hB0 hBW id 3 o ho
 obtain⟨y,hy⟩:∃y,y=fo D.sure.length D.down id o:=⟨_,rfl⟩
 rw[<-hy]
 unfold fo at hy
 unfold aaC str at hrd
 generalize frB D.sure.length D.down id 3 o=r at*
 obtain⟨b,x⟩:=r
 generalize D.bG id=D' at*
 have HY:=Lib.hid hy
 have HR:=Lib.hid hrd
 clear hy hrd ho
 have hb0:Below w.heap.size w (w.alloc (.cells #[.int .i64 0, .slice none 0 0, .int .i64 0] 331)):=(Below.refl _ w).alloc (Nat.le_refl _) _
 go_enter Tryz.func286,Tryz.ntmps286
 go_wp2_with fail
 refine Calls.mono (HR.out _ (h.keep hb0) (hT.below (hb0.mono hB) hB0) (Nat.le_trans hB hb0.size)) ?_
 rintro e w1 ⟨rfl,hF1,hb1,hk1,hm1,hc1⟩
 have hlt1:w.heap.size<w1.heap.size:=by have:=hb1.size;simp at this;omega
 have hlk:=hk1 _ _ _ (Blk.new w 331 #[.int .i64 0, .slice none 0 0, .int .i64 0]) (by decide) (by decide)
 have hcm1:=hc1.trans (hb0.cell (p:=⟨d,1,none⟩) h.dlt)
 have hdl:=h.dlt
 clear hc1
 have wu:=(hb0.mono hB).trans hb1
 have abq:=(Kept.below hb0).trans hk1
 have abr:=(fO.below hb0).trans hm1
 clear hb0 hb1 hk1 hm1
 have c0:=hlk.cell 0
 have c1:=hlk.cell 1
 have c2:=hlk.cell 2
 have f0:=hlk.frozen 0
 have f1:=hlk.frozen 1
 have f2:=hlk.frozen 2
 by_cases hx0:x=0
 ·subst hx0
  have hpa:=fun W=>parse_any b W
  obtain⟨o2,ho2⟩:∃o2,o2=Cp.prog b:=⟨_,rfl⟩
  simp only[<-ho2]at hpa
  have HP:=Lib.hid hpa
  have HO:=Lib.hid ho2
  clear hpa ho2
  go_wp2_with fail
  refine Calls.mono (HP.out _) ?_
  rintro e w2 ⟨n,v,l,x2,rfl,hown,hb2,hcase⟩
  have HC:=Lib.hid hcase
  clear hcase
  obtain⟨A,c,rfl⟩:=hown.form
  have hlk2:=hlk.below hb2 hlt1
  have c0:=hlk2.cell 0
  have c1:=hlk2.cell 1
  have c2:=hlk2.cell 2
  have f0:=hlk2.frozen 0
  have f1:=hlk2.frozen 1
  have f2:=hlk2.frozen 2
  go_wp2
  obtain⟨qV,hg3⟩:=mP (.int .i64 id) (.slice A l.length c) (.int .i64 x2) hlk2
  generalize ((w2.setCell ⟨w.heap.size,0,none⟩ (.int .i64 id)).setCell ⟨w.heap.size,1,none⟩ (.slice A l.length c)).setCell ⟨w.heap.size,2,none⟩ (.int .i64 x2)=w3 at*
  have hz:=hb2.size
  have hbase:w.heap.size<=w1.heap.size:=Nat.le_of_lt hlt1
  have hown3:Own w3 w.heap.size (.slice A l.length c) l:=jw (World.ownsRow.kept hown hg3 (.inr (fun e=>by have:=(hown.lt _ e).1;omega))) hbase
  have hF3:=(hF1.keep hb2).dX (iI.grown hlk2 (by decide) hg3)
  have hbb:=(wu.trans (hb2.mono (Nat.le_trans hB hbase))).grown hg3 (by omega) (fun k e=>by cases e;exact hB)
  have hkk:=(abq.trans (Kept.below hb2)).far hg3 (Nat.le_refl _)
  have hmm:=(abr.trans (fO.below hb2)).far hg3 (Nat.le_refl _)
  have hcc:=(mQ hg3 (show d<w2.heap.size by omega) (by show ¬d=_;omega)).trans ((hb2.cell (p:=⟨d,1,none⟩) (show d<w1.heap.size by omega)).trans hcm1)
  have d0:=qV.cell 0
  have d1:=qV.cell 1
  have d2:=qV.cell 2
  simp at d0 d1 d2
  refine bodyPost_ret (v:= .tuple #[.agg #[.int .i64 id, .slice A l.length c, .int .i64 x2], .int .i64 n]) (by simp[results,Tryz.f286,go_sem,d0,d1,d2]) rfl ?_
  rcases HC.out with⟨h1,rfl,rfl,rfl⟩ | ⟨h1,rfl⟩
  ·have hyy:y=((id, [],3),0):=(HY.out.trans (wM HO.out)).trans (by rw[h1];rfl)
   rw[hyy]
   exact⟨_,rfl,hown3,hF3,hbb,hkk,hmm,hcc⟩
  ·have hyy:y=((id,l,0),n):=(HY.out.trans (wM HO.out)).trans (by rw[h1];rfl)
   rw[hyy]
   exact⟨_,rfl,hown3,hF3,hbb,hkk,hmm,hcc⟩
 ·have hyy:y=((0, [],if x=40 then 3 else x),0):=HY.out.trans (BD hx0)
  by_cases hx4:x=40
  ·rw[if_pos hx4]at hyy
   have HYY:=Lib.hid hyy
   subst hx4
   clear HY hyy
   go_wp2
   obtain⟨qV,hg3⟩:=mP (.int .i64 0) (.slice none 0 0) (.int .i64 3) hlk
   generalize ((w1.setCell ⟨w.heap.size,0,none⟩ (.int .i64 0)).setCell ⟨w.heap.size,1,none⟩ (.slice none 0 0)).setCell ⟨w.heap.size,2,none⟩ (.int .i64 3)=w3 at*
   have d0:=qV.cell 0
   have d1:=qV.cell 1
   have d2:=qV.cell 2
   simp at d0 d1 d2
   refine bodyPost_ret (v:= .tuple #[.agg #[.int .i64 0, .slice none 0 0, .int .i64 3], .int .i64 0]) (by simp[results,Tryz.f286,go_sem,d0,d1,d2]) rfl ?_
   rw[HYY.out]
   exact⟨_,rfl,Own.nil_ _ _,hF1.dX (iI.grown hlk (by decide) hg3),wu.grown hg3 (by omega) (fun k e=>by cases e;exact hB),abq.far hg3 (Nat.le_refl _),abr.far hg3 (Nat.le_refl _),(mQ hg3 (by omega) (by show ¬d=_;omega)).trans hcm1⟩
  ·have hq:(x==40)=false:=by simpa using hx4
   have hq2:(x != 0)=true:=by simpa using hx0
   rw[if_neg hx4]at hyy
   have HYY:=Lib.hid hyy
   clear HY hyy
   go_wp2
   obtain⟨qV,hg3⟩:=mP (.int .i64 0) (.slice none 0 0) (.int .i64 x) hlk
   generalize ((w1.setCell ⟨w.heap.size,0,none⟩ (.int .i64 0)).setCell ⟨w.heap.size,1,none⟩ (.slice none 0 0)).setCell ⟨w.heap.size,2,none⟩ (.int .i64 x)=w3 at*
   have d0:=qV.cell 0
   have d1:=qV.cell 1
   have d2:=qV.cell 2
   simp at d0 d1 d2
   refine bodyPost_ret (v:= .tuple #[.agg #[.int .i64 0, .slice none 0 0, .int .i64 x], .int .i64 0]) (by simp[results,Tryz.f286,go_sem,d0,d1,d2]) rfl ?_
   rw[HYY.out]
   exact⟨_,rfl,Own.nil_ _ _,hF1.dX (iI.grown hlk (by decide) hg3),wu.grown hg3 (by omega) (fun k e=>by cases e;exact hB),abq.far hg3 (Nat.le_refl _),abr.far hg3 (Nat.le_refl _),(mQ hg3 (by omega) (by show ¬d=_;omega)).trans hcm1⟩
end Go.Proofs.YteppebbmnojapaaGreatDoor
namespace Go.Proofs.YteppebbmnojapaaGreatDoor
open Go.RowKit Go.Shelf Go.Maps
section
variable {w w':World}{B f d k kf t m m0 n:Nat}{Dd:Dk}{free:List Run}{pages:Int}{D:DataW Value}
theorem FAt.fileOf(h:FAt w B f d kf Dd):qL w f Dd.sure.length:=⟨d,h.self,h.disk.of_⟩
theorem RU{base:Nat}{v:Value}{l:List Run}(h:Own w base v l)(hk:Kept w w'):Own w' base v l:=by
 rcases h with⟨h3,h4 | ⟨g,cap,cur,hv,hb,hh,r⟩⟩
 ·exact⟨h3, .inl h4⟩
 ·exact⟨h3, .inr ⟨g,cap,cur,hv,hb,hk g _ _ hh (by decide) (by decide),r⟩⟩
theorem Txn.keepW(h:Txn w t m f n free pages k D)(hk:Kept w w')(ho:kZ m0 w w')(hm:m≠m0)(hF:FAt w' B f d kf Dd)(hn:Dd.sure.length=n):Txn w' t m f n free pages k D:=by
 obtain⟨h1,⟨v,h2,h3⟩,es,c,h4,h5⟩:=h
 exact⟨hn ▸ hF.fileOf,⟨v,hk _ _ _ h2 (by decide) (by decide),RU h3 hk⟩,es,c,ho m _ h4 rfl hm,h5⟩
end
theorem Wj(D:Dk)(id:Int)(q:Nat)(b:Bs):(D.dW id q b).sure.length=D.sure.length:=by
 unfold Dk.dW Dk.wrote
 split
 ·rfl
 ·split
  ·rfl
  ·split
   ·rfl
   ·split
    ·rfl
    ·split<;>rfl
end Go.Proofs.YteppebbmnojapaaGreatDoor
