/- Part of this proof. -/
import Derived.BigRegion
import Derived.Test.YtjoiajmbfbjnnaaGreatDoorH14
set_option maxRecDepth 100000
set_option maxHeartbeats 8000000
namespace Go.Proofs.YtjoiajmbfbjnnaaGreatDoor
open Go.RowKit Go.Shelf
def BadPg(id:Int)(s:List UInt8):Prop:=s.length=256/\(Cp.num ((s.drop 4).take 4):Int)≠id
theorem zero_bad{id:Int}(h:id≠0):BadPg id zeroL:=by
 have e:Cp.num ((zeroL.drop 4).take 4)=0:=by decide +kernel
 refine⟨List.length_replicate, ?_⟩
 rw[e]
 exact fun a=>h a.symm
theorem open_bad(id:Int)(s:List UInt8)(hs:BadPg id s)(w:World)(hT:HT w):
  Calls Tryz.prog 237 #[.int .i64 id, .string ⟨s.toArray⟩] w (OpenEnd 0 [] 3 w):=by
 obtain⟨hsl,hne⟩:=hs
 have hCk:=fun W hT=>pcheck_any s hsl W hT
 have h1:=fun g W h=>int_any g ⟨s,0⟩ 4 W h (by omega)
 rw[Cp.int_ok rfl (by show 4<=s.length;omega)]at h1
 have h2:=fun g W h=>int_any g ⟨s.drop 4,0⟩ 4 W h (by omega)
 rw[Cp.int_ok rfl (by show 4<=(s.drop 4).length;rw[List.length_drop];omega)]at h2
 have h3:=fun g r W h=>int_any g r 1 W h (by omega)
 have h5:=fun g r W h=>int_any g r 2 W h (by omega)
 have h6:=fun g r (k:Nat) W h=>bytes_any g r (k:Int) W h
 generalize decide ((Cp.num (s.take 4):Int)=(Cc.sum (s.drop 4):Int))=c at*
 have hne2:((Cp.num ((s.drop 4).take 4):Int) != id)=true:=by simpa using hne
 simp only at h1 h2
 generalize Cp.num (s.take 4)=nC at*
 generalize Cp.num ((s.drop 4).take 4)=nI at*
 generalize (⟨s.drop 4,0⟩:Cp.Rd)=r1 at*
 generalize (⟨(s.drop 4).drop 4,0⟩:Cp.Rd)=r2 at*
 have H1:=Lib.hid h1
 have H2:=Lib.hid h2
 have H3:=Lib.hid h3
 have H5:=Lib.hid h5
 have H6:=Lib.hid h6
 have HC:=Lib.hid hCk
 clear h1 h2 h3 h5 h6 hCk hsl hne
 go_enter Tryz.func237,Tryz.ntmps237
 go_wp2_with fail
 refine Calls.mono (read_any s _) ?_
 rintro e w1 ⟨rfl,rfl⟩
 have b0:=Blk.new w 330 (rdCells ⟨s,0⟩)
 have hbw0:Below w.heap.size w (w.alloc (.cells (rdCells ⟨s,0⟩) 330)):=(Below.refl _ _).alloc (Nat.le_refl _) _
 go_wp2_with fail
 refine Calls.mono (H1.out _ _ b0) ?_
 rintro e w1 ⟨rfl,b1,g1⟩
 have hbw1:=hbw0.grown g1 hbw0.size (fun k e=>by cases e;exact Nat.le_refl _)
 clear b0 hbw0 g1
 go_wp2_with fail
 refine Calls.mono (H2.out _ _ b1) ?_
 rintro e w2 ⟨rfl,b2,g2⟩
 have hbw2:=hbw1.grown g2 hbw1.size (fun k e=>by cases e;exact Nat.le_refl _)
 clear b1 hbw1 g2
 go_wp2_with fail
 refine Calls.mono (H3.out _ _ _ b2) ?_
 rintro e w3 ⟨rfl,b3,g3⟩
 have hbw3:=hbw2.grown g3 hbw2.size (fun k e=>by cases e;exact Nat.le_refl _)
 clear b2 hbw2 g3
 generalize (r2.int 1).1=nK at*
 generalize (r2.int 1).2=r3 at*
 go_wp2_with fail
 refine Calls.mono (H3.out _ _ _ b3) ?_
 rintro e w4 ⟨rfl,b4,g4⟩
 have hbw4:=hbw3.grown g4 hbw3.size (fun k e=>by cases e;exact Nat.le_refl _)
 clear b3 hbw3 g4
 generalize (r3.int 1).1=nZ at*
 generalize (r3.int 1).2=r4 at*
 go_wp2_with fail
 refine Calls.mono (H5.out _ _ _ b4) ?_
 rintro e w5 ⟨rfl,b5,g5⟩
 have hbw5:=hbw4.grown g5 hbw4.size (fun k e=>by cases e;exact Nat.le_refl _)
 clear b4 hbw4 g5
 generalize (r4.int 2).1=nL at*
 generalize (r4.int 2).2=r5 at*
 go_wp2_with fail
 refine Calls.mono (H6.out _ _ 4 _ b5) ?_
 rintro e w6 ⟨rfl,b6,g6⟩
 have hbw6:=hbw5.grown g6 hbw5.size (fun k e=>by cases e;exact Nat.le_refl _)
 clear b5 hbw5 g6
 generalize (r5.bytes ((4:Nat):Int)).1=sG at*
 generalize (r5.bytes ((4:Nat):Int)).2=r6 at*
 go_wp2_with fail
 refine Calls.mono (H6.out _ _ nL _ b6) ?_
 rintro e w7 ⟨rfl,b7,g7⟩
 have hbw7:=hbw6.grown g7 hbw6.size (fun k e=>by cases e;exact Nat.le_refl _)
 clear b6 hbw6 g7
 generalize (r6.bytes (nL:Int)).1=sB at*
 generalize (r6.bytes (nL:Int)).2=r7 at*
 go_wp2_with fail
 refine Calls.mono (rdleft_any _ _ _ b7) ?_
 rintro e w8 ⟨rfl,rfl⟩
 generalize r7.rest.length=lr at*
 go_wp2_with fail
 refine Calls.mono (H6.out _ _ lr _ b7) ?_
 rintro e w9 ⟨rfl,b9,g9⟩
 have hbw9:=hbw7.grown g9 hbw7.size (fun k e=>by cases e;exact Nat.le_refl _)
 clear b7 hbw7 g9
 generalize (r7.bytes (lr:Int)).1=sR at*
 generalize (r7.bytes (lr:Int)).2=r9 at*
 have hT9:=hT.below hbw9 hT.1
 go_wp2_with fail
 refine Calls.mono (HC.out _ hT9) ?_
 rintro e w10 ⟨rfl,b10⟩
 have hb9:=b9.below b10 b9.lt
 have hbw10:=hbw9.trans (b10.mono hbw9.size)
 clear b9 b10 hbw9 hT9
 cases c with
 |false=>
  go_wp2
  refine bodyPost_ret (v:= .tuple #[.int .u8 0, .string ⟨#[]⟩, .int .i64 3]) (by simp[results,Tryz.results237,go_sem]) rfl ⟨rfl,hbw10⟩
 |true=>
  go_wp2_with fail
  refine Calls.mono (rdend_any _ _ _ hb9) ?_
  rintro e w11 ⟨x,rfl, -,hb11⟩
  have hbw11:=hbw10.trans (hb11.mono hbw10.size)
  clear hb11 hbw10 hb9
  by_cases hx:x=0
  ·subst hx
   go_wp2
   refine bodyPost_ret (v:= .tuple #[.int .u8 0, .string ⟨#[]⟩, .int .i64 3]) (by simp[results,Tryz.results237,go_sem]) rfl ⟨rfl,hbw11⟩
  ·have hx2:(x != 0)=true:=by simpa using hx
   go_wp2
   refine bodyPost_ret (v:= .tuple #[.int .u8 0, .string ⟨#[]⟩, .int .i64 3]) (by simp[results,Tryz.results237,go_sem]) rfl ⟨rfl,hbw11⟩
def PageIs(D:Dk)(id:Int)(o:Option (Nat × Bs)):Prop:=(BadPg id (D.get id)/\o=none)\/∃k b,k<256/\b.length<=240/\D.get id=Pg.page id.toNat k b/\o=some (k,b)
def frB(n:Nat)(down:Bool)(id:Int)(kind:Nat)(o:Option (Nat × Bs)):Bs × Int:=
 if noPage n id then([],40)else if down then([],4)else match o with
 |none=>([],3)
 |some (k,b)=>if k=kind then(b,0)else([],3)
def Dk.readD(D:Dk)(id:Int):Dk:=if noPage D.sure.length id then D else if D.down then D else { D with reads:=D.reads+1 }
theorem tget_fresh(t m f n k:Nat)(free:List Run)(pages:Int)(D:DataW Value)(id q kind:Int)(s:ByteArray)(hid:(Lit.int .i64 id).wf=true)(hh:Maps.has D (.int .i64 id)=true)(hd:∀z,D.atKey (.int .i64 id) z= .held (content true q s))(w:World)(h:Txn w t m f n free pages k D):
  Calls Tryz.prog 146 #[.pointer (some ⟨t,0,none⟩), .int .i64 id, .int .u8 kind] w fun e w'=>e= .returned (if q=kind then .tuple #[.string s, .int .i64 0]else .tuple #[.string ⟨#[]⟩, .int .i64 3])/\Below w.heap.size w w':=by
 obtain⟨_,⟨v,h2,h3⟩,h4⟩:=h
 have hlt:=h2.lt
 have hc:=h2.cell 3
 obtain⟨u,ps,hrun,hu⟩:=h4.look_ok keyedI Tryz.underlying141 (Tryz.zeroValue156 w) (heldR_mk _ _ _) (keyI hid)
 rw[hd,hh]at*
 obtain⟨b,q',s',rfl,hz⟩:=heldR_inv hu
 have hz:=(Prod.mk.inj hz).1
 injection hz with hz
 rw[<-hz]at hrun
 unfold content at hrun
 clear hu hz h4 hd hh
 by_cases e:q=kind
 ·subst e
  rw[if_pos rfl]
  go_enter Tryz.func146,Tryz.ntmps146
  go_wp2
  go_ret2
  exact⟨rfl,(Below.refl _ w).alloc (Nat.le_refl _) _⟩
 ·rw[if_neg e]
  have hq:(q != kind)=true:=by simpa using e
  go_enter Tryz.func146,Tryz.ntmps146
  go_wp2
  go_ret2
  exact⟨rfl,(Below.refl _ w).alloc (Nat.le_refl _) _⟩
theorem extract_all(t:Bs)(h:t.length=256):(⟨t.toArray⟩:ByteArray).extract 0 256=⟨t.toArray⟩:=by
 apply ByteArray.ext
 rw[ByteArray.data_extract]
 apply Array.toList_inj.1
 simp
 exact List.take_of_length_le (by omega)
theorem str_nil(t:Bs):(⟨t.toArray⟩:ByteArray)++⟨#[]⟩=⟨t.toArray⟩:=by
 apply ByteArray.ext
 simp
theorem done_any{w:World}{d s n i:Nat}(rest:List Value)(hd:Blk w d 132 (.slice (some ⟨s,0,none⟩) n n::rest).toArray){cs:Array Value}(hs:Blk w s 9 cs)(hi:i<n){t u:Bs}(ht:t.length=256)(hu:u.length=256)(hc:cs[i]? =some (str u)):
  Calls Tryz.prog 159 #[.pointer (some ⟨d,0,none⟩), .agg #[.int .i64 i,str t], .int .i64 256] w fun e w'=>(∃v,e= .returned v)/\w'=((w.alloc (.cells #[.int .i64 i,str t] 168)).setCell ⟨s,i,none⟩ (str t)).drew:=by
 have h0:=hd.cell 0
 have hsi:=(hs.cell i).trans hc
 have hsf:=hs.frozen i
 have hdl:=hd.lt
 have hsl:=hs.lt
 have x1:=extract_all t ht
 have x3:=str_nil t
 have z1:(⟨t.toArray⟩:ByteArray).size=256:=by simpa[ByteArray.size]using ht
 have z2:(⟨u.toArray⟩:ByteArray).size=256:=by simpa[ByteArray.size]using hu
 unfold str at*
 go_enter Tryz.func159,Tryz.ntmps159
 go_wp2
 have hb:=Blk.new w 168 #[.int .i64 (i:Int), .string ⟨t.toArray⟩]
 have k0:=hb.cell 0
 have k1:=hb.cell 1
 have h0a:=(hd.alloc (.cells #[.int .i64 (i:Int), .string ⟨t.toArray⟩] 168)).cell 0
 have hsa:=(hs.alloc (.cells #[.int .i64 (i:Int), .string ⟨t.toArray⟩] 168)).cell i
 rw[hc]at hsa
 have hfa:=(hs.alloc (.cells #[.int .i64 (i:Int), .string ⟨t.toArray⟩] 168)).frozen i
 generalize hwa:w.alloc (.cells #[.int .i64 (i:Int), .string ⟨t.toArray⟩] 168)=wa at*
 have HWA:=Lib.hid hwa
 clear hwa
 generalize w.heap.size=g at*
 clear hb hd hs hsi hsf
 simp at k0 k1 h0a
 go_region
 all_goals(go_end0;exact⟨⟨_,rfl⟩,by rw[HWA.out]⟩)
theorem fit_clear{H:Type}{P:Program}{k:TypeId}{R:Value->Option (DataW H × List MemPlace)}{w:World}{m:Nat}{c:Nat}(h:w.heap[m]? =some (.map #[] c)):w.ownsMap P k R m 0 (.map []):=
 ⟨#[],c,h,⟨by simp,MapKept.stamped_empty c,by simp⟩,Nat.le_refl _,rfl⟩
theorem settle_any{w:World}{d s n m:Nat}{pv:Value}{v4 v5 v6 v7:Value}(hd:Blk w d 132 #[.slice (some ⟨s,0,none⟩) n n, .map (some m),pv,v4,v5,v6,v7]){es:Array MapEntry}{c:Nat}(hm:w.heap[m]? =some (.map es c)):
  Calls Tryz.prog 160 #[.pointer (some ⟨d,0,none⟩)] w fun e w'=>(∃v,e= .returned v)/\w'=(w.setCell ⟨d,2,none⟩ (.slice none 0 0)).putObj m (.map #[] c):=by
 have hne:d≠m:=fun e=>by subst e;unfold Blk at hd;rw[hd]at hm;cases hm
 have h1:=(hd.set_ 2 (.slice none 0 0)).cell 1
 have h2:=hd.cell 2
 have f2:=hd.frozen 2
 have hlt:=hd.lt
 have hm2:(w.setCell ⟨d,2,none⟩ (.slice none 0 0)).heap[m]? =some (.map es c):=(Below.heap_setCell w ⟨d,2,none⟩ (.slice none 0 0) m (Ne.symm hne)).trans hm
 have hcl:∀ty,(Builtin.clear_ #[124] ty #[.map (some m)]).run Tryz.prog (w.setCell ⟨d,2,none⟩ (.slice none 0 0))= .ok (.tuple #[]) ((w.setCell ⟨d,2,none⟩ (.slice none 0 0)).putObj m (.map #[] c)):=fun ty=>by
  simp[Builtin.clear_,run_underlying Tryz.underlying124,MapKept.run_getObj_map hm2,MapKept.run_setObj_map _ hm2,Result.andThen,World.putObj]
 clear hd hm hm2
 go_enter Tryz.func160,Tryz.ntmps160
 go_wp2
 go_end0
 exact⟨⟨_,rfl⟩,rfl⟩
def doneL(sure:List Bs)(pend:List (Int × Bs)):List Bs:=pend.foldl (fun s x=>s.set x.1.toNat x.2) sure
theorem doneL_len(pend:List (Int × Bs)):∀sure,(doneL sure pend).length=sure.length:=by
 induction pend with
 |nil=>intro s;rfl
 |cons x r ih=>intro s;show(doneL (s.set x.1.toNat x.2) r).length=_;rw[ih,List.length_set]
theorem doneL_succ(sure:List Bs)(pend:List (Int × Bs))(j:Nat)(hj:j<pend.length):doneL sure (pend.take (j+1))=(doneL sure (pend.take j)).set pend[j].1.toNat pend[j].2:=by
 unfold doneL
 rw[List.take_succ_eq_append_getElem hj,List.foldl_append]
 rfl
structure WellD(D:Dk):Prop where
 sure:∀x∈D.sure,x.length=256
 pend:∀x∈D.pend,x.2.length=256/\0<=x.1/\x.1<(D.sure.length:Int)
theorem doneL_all{n:Nat} :∀ (pend:List (Int × Bs)) (sure:List Bs),(∀x∈sure,x.length=256)->(∀x∈pend,x.2.length=256/\0<=x.1/\x.1<(n:Int))->∀x∈doneL sure pend,x.length=256:=by
 intro pend
 induction pend with
 |nil=>intro s hs _ x hx;exact hs x hx
 |cons y r ih=>
  intro s hs hp
  refine ih _ (fun x hx=> ?_) (fun x hx=>hp x (List.mem_cons_of_mem _ hx))
  rcases List.mem_or_eq_of_mem_set hx with h | rfl
  ·exact hs x h
  ·exact(hp y (List.mem_cons_self ..)).1
def Dk.synced(D:Dk):Dk:= { D with sure:=doneL D.sure D.pend,now:=fun _=>none,pend:= [] }
structure Touch3(d s m:Nat)(w w':World):Prop where
 os:w'.os=w.os
 tape:w'.tape=w.tape
 output:w'.output=w.output
 size:w.heap.size<=w'.heap.size
 block:∀k,k<w.heap.size->k≠d->k≠s->k≠m->w'.heap[k]? =w.heap[k]?
theorem sync_any{w:World}{B d k:Nat}{D:Dk}{s m:Nat}{pv:Value}{Dm:DataW Value}(h:DAt w B d k D s m pv Dm)(hW:WellD D)(hdn:D.down=false)(hp:D.pend.length<=1000000000000):
  Calls Tryz.prog 89 #[.pointer (some ⟨d,0,none⟩)] w fun e w'=>e= .returned (.int .i64 0)/\DAt w' B d 0 D.synced s m (.slice none 0 0) (.map [])/\Touch3 d s m w w':=by
 obtain⟨A,c,rfl⟩:=h.pend.form
 have hLS:=h.pend.ls
 have h4:=h.self.cell 4
 have h2:=h.self.cell 2
 simp only[dkCells,hdn]at h4 h2
 have hdl:=h.self.lt
 have HH:=Lib.hid h
 have hds:d≠s:=h.self.ne_ h.sure (by decide)
 have hws:∀j (hj:j<D.pend.length),D.pend[j].2.length=256/\0<=D.pend[j].1/\D.pend[j].1<(D.sure.length:Int):=fun j hj=>hW.pend _ (List.getElem_mem hj)
 have hall:∀j,∀x∈doneL D.sure (D.pend.take j),x.length=256:=fun j=>doneL_all (n:=D.sure.length) _ _ hW.sure (fun x hx=>hW.pend x (List.mem_of_mem_take hx))
 have HALL:=Lib.hid hall
 have HWS:=Lib.hid hws
 clear hws hall hW
 go_enter Tryz.func89,Tryz.ntmps89
 go_wp2
 go_loopw [14] (fun i wr=>∃j:Nat,j<=D.pend.length/\i= .int .i64 j/\Blk wr s 9 ((doneL D.sure (D.pend.take j)).map str).toArray/\w.grownBy wr (some s)) (fun i _=>D.pend.length-(intOf i).toNat)
 case atStart=>exact⟨0,by omega,rfl,h.sure,World.grownBy.refl w _⟩
 case round=>
  obtain⟨j,hj,rfl,hs,hg⟩:=hrel
  have hself:=h.self.grown hg (fun e=>hds (Option.some.inj e))
  by_cases hlt:j<D.pend.length
  ·have hpe:LS penE wr wr.heap.size A D.pend:=(LO.keep h.pend hg (fun r e=>by cases e;exact⟨_,h.sure,fun cs e=>by injection e with _ e;cases e⟩)).ls
   obtain⟨b2,o2,rfl,hb2,hc⟩:=hpe.at_ hlt
   have g0:=hc 0 (by decide)
   have g1:=hc 1 (by decide)
   obtain⟨q1,q2,q3⟩:=HWS.out j hlt
   have hsu:=doneL_succ D.sure D.pend j hlt
   have hlen:=doneL_len (D.pend.take j) D.sure
   have hal:=HALL.out j
   rw[show o2+j*penE.size+0=o2+j*2 from rfl]at g0
   rw[show o2+j*penE.size+1=o2+j*2+1 from rfl]at g1
   generalize D.pend[j]=y at*
   obtain⟨q,t⟩:=y
   simp only at q1 q2 q3
   obtain⟨q,rfl⟩:=Int.eq_ofNat_of_zero_le q2
   have g0':wr.cell? ⟨b2,o2+j*2,none⟩=some (.int .i64 (q:Int)):=g0
   have g1':wr.cell? ⟨b2,o2+j*2+1,none⟩=some (str t):=g1
   clear g0 g1
   generalize hL:doneL D.sure (D.pend.take j)=L at*
   have hql:q<L.length:=by omega
   have hcu:(L.map str).toArray[q]? =some (str L[q]):=by simp[hql]
   have hul:L[q].length=256:=hal _ (List.getElem_mem hql)
   have hself1:=hself.alloc (.cells #[.int .i64 (q:Int),str t] 168)
   have hs1:=hs.alloc (.cells #[.int .i64 (q:Int),str t] 168)
   have hdo:=done_any (n:=D.sure.length) _ hself1 hs1 (by omega) q1 hul hcu
   have HSU:=Lib.hid hsu
   have HDO:=Lib.hid hdo
   clear hdo hsu hcu hal hself1 hs1
   generalize hcs:(L.map str).toArray=cs at*
   unfold str at g1' HDO
   go_wp2_with fail
   refine Calls.mono HDO.out ?_
   rintro e w1 ⟨⟨v,rfl⟩,rfl⟩
   have hgr:=only_drew (only_setCell (p:=⟨s,q,none⟩) (only_alloc (only_alloc hg (.cells #[.int .i64 (q:Int), .string ⟨t.toArray⟩] 168)) (.cells #[.int .i64 (q:Int), .string ⟨t.toArray⟩] 168)) (.inl rfl) (.string ⟨t.toArray⟩))
   have hbs:=((hs.alloc (.cells #[.int .i64 (q:Int), .string ⟨t.toArray⟩] 168)).alloc (.cells #[.int .i64 (q:Int), .string ⟨t.toArray⟩] 168)).set_ q (.string ⟨t.toArray⟩)
   replace hbs:=hbs.drew
   have hce:cs.setIfInBounds q (.string ⟨t.toArray⟩)=((doneL D.sure (D.pend.take (j+1))).map str).toArray:=by
    rw[HSU.out, <-hcs]
    simp[List.map_set,str]
   rw[hce]at hbs
   generalize ((((wr.alloc (.cells #[.int .i64 (q:Int), .string ⟨t.toArray⟩] 168)).alloc (.cells #[.int .i64 (q:Int), .string ⟨t.toArray⟩] 168)).setCell ⟨s,q,none⟩ (.string ⟨t.toArray⟩)).drew)=w2 at*
   go_wp2
   go_roundw
   case rel=>exact⟨j+1,by omega,by go_num,hbs,hgr⟩
   case measure=>simp[intOf];omega
  ·obtain rfl:j=D.pend.length:=by omega
   rw[List.take_of_length_le (Nat.le_refl _)]at hs
   obtain⟨es,cl,hm0,_⟩:=HH.out.map
   have hms:=HH.out.mne HH.out.sure
   have hmd:=HH.out.mne HH.out.self
   have hml:=(Array.getElem?_eq_some_iff.1 hm0).1
   have hm1:wr.heap[m]? =some (.map es cl):=(hg.block m hml (fun e=>hms (Option.some.inj e))).trans hm0
   have hse:=settle_any (w:=wr) (d:=d) (s:=s) (n:=D.sure.length) (m:=m) (pv:= .slice A D.pend.length c) (v4:= .int .i64 D.left) (v5:= .bool D.down) (v6:= .int .i64 D.reads) (v7:= .int .i64 D.writes) hself hm1
   have hfin:DAt ((wr.setCell ⟨d,2,none⟩ (.slice none 0 0)).putObj m (.map #[] cl)) B d 0 D.synced s m (.slice none 0 0) (.map [])/\Touch3 d s m w ((wr.setCell ⟨d,2,none⟩ (.slice none 0 0)).putObj m (.map #[] cl)):=by
    have x1:=hself.set_ 2 (.slice none 0 0)
    have x2:Blk (wr.setCell ⟨d,2,none⟩ (.slice none 0 0)) s 9 ((doneL D.sure D.pend).map str).toArray:=hs.far (p:=⟨d,2,none⟩) (Ne.symm hds) _
    have x3:(wr.setCell ⟨d,2,none⟩ (.slice none 0 0)).heap[m]? =some (.map es cl):=(Below.heap_setCell wr ⟨d,2,none⟩ (.slice none 0 0) m hmd).trans hm1
    have x5:∀i,i<w.heap.size->i≠d->i≠s->(wr.setCell ⟨d,2,none⟩ (.slice none 0 0)).heap[i]? =w.heap[i]? :=fun i hi h1 h2=>(Below.heap_setCell wr ⟨d,2,none⟩ (.slice none 0 0) i h1).trans (hg.block i hi (fun e=>h2 (Option.some.inj e)))
    have x6:(wr.setCell ⟨d,2,none⟩ (.slice none 0 0)).heap.size=wr.heap.size:=by simp[World.setCell]
    have x7:(wr.setCell ⟨d,2,none⟩ (.slice none 0 0)).os=w.os/\(wr.setCell ⟨d,2,none⟩ (.slice none 0 0)).tape=w.tape/\(wr.setCell ⟨d,2,none⟩ (.slice none 0 0)).output=w.output:=⟨hg.os,hg.tape,hg.output⟩
    generalize wr.setCell ⟨d,2,none⟩ (.slice none 0 0)=W at*
    have y1:∀ {g:Nat} {ty:TypeId} {cs:Array Value},Blk W g ty cs->Blk (W.putObj m (.map #[] cl)) g ty cs:=fun {g ty cs} hb=>by
     have hne:m≠g:=fun e=>by subst e;unfold Blk at hb;rw[x3]at hb;cases hb
     exact(World.putObj_heap_other (Ne.symm hne)).trans hb
    have y2:(W.putObj m (.map #[] cl)).heap[m]? =some (.map #[] cl):=World.putObj_heap_same (Array.getElem?_eq_some_iff.1 x3).1
    refine⟨⟨HH.out.le, ?_,y1 x2,fit_clear y2,fun i z=>⟨by simp[Maps.has,Dk.synced],by simp[DataW.atKey,Dk.synced]⟩,LO.nil_ _ _⟩,x7.1,x7.2.1,x7.2.2,by have:=hg.size;simp[World.putObj];omega,fun i hi h1 h2 h3=>(World.putObj_heap_other h3).trans (x5 i hi h1 h2)⟩
    have:=y1 x1
    have hlen:(doneL D.sure D.pend).length=D.sure.length:=doneL_len _ _
    unfold dkCells Dk.synced
    simp only[hlen]
    exact this
   have HFIN:=Lib.hid hfin
   have HSE:=Lib.hid hse
   clear hfin hse
   go_wp2_with fail
   refine Calls.mono HSE.out ?_
   rintro e w1 ⟨⟨v,rfl⟩,rfl⟩
   go_wp2
   go_ret
   exact⟨rfl,HFIN.out⟩
structure Lim(D:Dk)(N:Nat):Prop where
 n:D.sure.length<=16384
 writes:0<=D.writes/\D.writes<=N
 reads:0<=D.reads/\D.reads<=N
 left: -1<=D.left/\D.left<=9223372036854775807
 pend:D.pend.length<=N
theorem Lim.fine{D:Dk}{N:Nat}(h:Lim D N)(hN:N<1000000000000):Fine D:=
 ⟨h.n,⟨h.writes.1,by have:=h.writes.2;omega⟩,⟨h.reads.1,by have:=h.reads.2;omega⟩,h.left,by have:=h.pend;omega⟩
theorem Lim.mono{D:Dk}{N M:Nat}(h:Lim D N)(hM:N<=M):Lim D M:=
 ⟨h.n,⟨h.writes.1,by have:=h.writes.2;omega⟩,⟨h.reads.1,by have:=h.reads.2;omega⟩,h.left,by have:=h.pend;omega⟩
theorem Lim.wrote{D:Dk}{N:Nat}(h:Lim D N)(i:Int)(t:Bs):Lim (D.wrote i t) (N+1):=by
 have h1:=h.writes
 have h2:=h.reads
 have h3:=h.left
 have h4:=h.pend
 have hp:(D.pend++ [(i,t)]).length<=N+1:=by rw[List.length_append];simp;omega
 unfold Dk.wrote Dk.put
 split
 ·exact⟨h.n,⟨by show 0<=D.writes+1;omega,by show D.writes+1<=_;omega⟩,⟨h2.1,by show D.reads<=_;omega⟩,⟨by show(-1:Int)<= -1;omega,by show(-1:Int)<=_;omega⟩,hp⟩
 ·split
  ·exact⟨h.n,⟨by show 0<=D.writes+1;omega,by show D.writes+1<=_;omega⟩,⟨h2.1,by show D.reads<=_;omega⟩,⟨by show -1<=D.left-1;omega,by show D.left-1<=_;omega⟩,hp⟩
  ·exact⟨h.n,⟨by show 0<=D.writes+1;omega,by show D.writes+1<=_;omega⟩,⟨h2.1,by show D.reads<=_;omega⟩,h3,hp⟩
theorem Lim.fput{D:Dk}{N:Nat}(h:Lim D N)(i:Int)(kind:Nat)(b:Bs):Lim (D.fput i kind b) (N+1):=by
 unfold Dk.fput
 split
 ·exact h.mono (by omega)
 ·split
  ·exact h.mono (by omega)
  ·split
   ·exact h.mono (by omega)
   ·exact h.wrote _ _
theorem has_putI{D:DataW Value}(h:Maps.IsMap D)(id x:Int)(v:DataW Value):Maps.has (D.put (.int .i64 id) v) (.int .i64 x)=(decide (x=id)||Maps.has D (.int .i64 x)):=by
 by_cases e:x=id
 ·subst e
  rw[Maps.has_put_same h (by trivial)];simp
 ·rw[Maps.has_put_other (by intro e2;injection e2 with _ e2;exact e e2)];simp[e]
theorem has_delI(D:DataW Value)(id x:Int):Maps.has (D.del (.int .i64 id)) (.int .i64 x)=(!decide (x=id)&&Maps.has D (.int .i64 x)):=by
 by_cases e:x=id
 ·subst e
  rw[Maps.has_del_same];simp
 ·rw[Maps.has_del_other (by intro e2;injection e2 with _ e2;exact e e2)];simp[e]
end Go.Proofs.YtjoiajmbfbjnnaaGreatDoor
