/- Part of this proof. -/
import Derived.BigRegion
import Derived.Test.YteppebbmnojapaaGreatDoorL15
set_option maxRecDepth 100000
set_option maxHeartbeats 8000000
namespace Go.Proofs.YteppebbmnojapaaGreatDoor
open Go.RowKit Go.Shelf
theorem extract_all(t:Bs)(h:t.length=256):(⟨t.toArray⟩:ByteArray).extract 0 256=⟨t.toArray⟩:=by
 apply ByteArray.ext
 rw[ByteArray.data_extract]
 apply Array.toList_inj.1
 simp
 exact List.take_of_length_le (by omega)
theorem Y3(t:Bs):(⟨t.toArray⟩:ByteArray)++⟨#[]⟩=⟨t.toArray⟩:=by
 apply ByteArray.ext
 simp
theorem V8{w:World}{d s n i:Nat}(rest:List Value)(hd:Blk w d 117 (.slice (some ⟨s,0,none⟩) n n::rest).toArray){cs:Array Value}(hs:Blk w s 9 cs)(hi:i<n){t u:Bs}(ht:t.length=256)(hu:u.length=256)(hc:cs[i]? =some (str u)):
  Calls Tryz.prog 141 #[.pointer (some ⟨d,0,none⟩), .agg #[.int .i64 i,str t], .int .i64 256] w fun e w'=>(∃v,e= .returned v)/\w'=((w.alloc (.cells #[.int .i64 i,str t] 230)).setCell ⟨s,i,none⟩ (str t)).drew:=by
 have h0:=hd.cell 0
 have hsi:=(hs.cell i).trans hc
 have hsf:=hs.frozen i
 have hdl:=hd.lt
 have hsl:=hs.lt
 have x1:=extract_all t ht
 have x3:=Y3 t
 have z1:(⟨t.toArray⟩:ByteArray).size=256:=by simpa[ByteArray.size]using ht
 have z2:(⟨u.toArray⟩:ByteArray).size=256:=by simpa[ByteArray.size]using hu
 unfold str at*
 go_enter Tryz.func141,Tryz.ntmps141
 go_wp2
 have hb:=Blk.new w 230 #[.int .i64 (i:Int), .string ⟨t.toArray⟩]
 have k0:=hb.cell 0
 have k1:=hb.cell 1
 have h0a:=(hd.alloc (.cells #[.int .i64 (i:Int), .string ⟨t.toArray⟩] 230)).cell 0
 have hsa:=(hs.alloc (.cells #[.int .i64 (i:Int), .string ⟨t.toArray⟩] 230)).cell i
 rw[hc]at hsa
 have hfa:=(hs.alloc (.cells #[.int .i64 (i:Int), .string ⟨t.toArray⟩] 230)).frozen i
 generalize hwa:w.alloc (.cells #[.int .i64 (i:Int), .string ⟨t.toArray⟩] 230)=wa at*
 have HWA:=Lib.hid hwa
 clear hwa
 generalize w.heap.size=g at*
 clear hb hd hs hsi hsf
 simp at k0 k1 h0a
 go_region
 all_goals(go_end0;exact⟨⟨_,rfl⟩,by rw[HWA.out]⟩)
theorem RP{H:Type}{P:Program}{k:TypeId}{R:Value->Option (DataW H × List MemPlace)}{w:World}{m:Nat}{c:Nat}(h:w.heap[m]? =some (.map #[] c)):w.ownsMap P k R m 0 (.map []):=
 ⟨#[],c,h,⟨by simp,MapKept.stamped_empty c,by simp⟩,Nat.le_refl _,rfl⟩
theorem Nw{w:World}{d s n m:Nat}{pv:Value}{v4 v5 v6 v7:Value}(hd:Blk w d 117 #[.slice (some ⟨s,0,none⟩) n n, .map (some m),pv,v4,v5,v6,v7]){es:Array MapEntry}{c:Nat}(hm:w.heap[m]? =some (.map es c)):
  Calls Tryz.prog 142 #[.pointer (some ⟨d,0,none⟩)] w fun e w'=>(∃v,e= .returned v)/\w'=(w.setCell ⟨d,2,none⟩ (.slice none 0 0)).putObj m (.map #[] c):=by
 have hne:d≠m:=fun e=>by subst e;unfold Blk at hd;rw[hd]at hm;cases hm
 have h1:=(hd.aW 2 (.slice none 0 0)).cell 1
 have h2:=hd.cell 2
 have f2:=hd.frozen 2
 have hlt:=hd.lt
 have hm2:(w.setCell ⟨d,2,none⟩ (.slice none 0 0)).heap[m]? =some (.map es c):=(Below.heap_setCell w ⟨d,2,none⟩ (.slice none 0 0) m (Ne.symm hne)).trans hm
 have hcl:∀ty,(Builtin.clear_ #[109] ty #[.map (some m)]).run Tryz.prog (w.setCell ⟨d,2,none⟩ (.slice none 0 0))= .ok (.tuple #[]) ((w.setCell ⟨d,2,none⟩ (.slice none 0 0)).putObj m (.map #[] c)):=fun ty=>by
  simp[Builtin.clear_,run_underlying Tryz.underlying109,MapKept.run_getObj_map hm2,MapKept.run_setObj_map _ hm2,Result.andThen,World.putObj]
 clear hd hm hm2
 go_enter Tryz.func142,Tryz.ntmps142
 go_wp2
 go_end0
 exact⟨⟨_,rfl⟩,rfl⟩
def jG(sure:List Bs)(pend:List (Int × Bs)):List Bs:=pend.foldl (fun s x=>s.set x.1.toNat x.2) sure
theorem sU(pend:List (Int × Bs)):∀sure,(jG sure pend).length=sure.length:=by
 induction pend with
 |nil=>intro s;rfl
 |cons x r ih=>intro s;show(jG (s.set x.1.toNat x.2) r).length=_;rw[ih,List.length_set]
theorem Ny(sure:List Bs)(pend:List (Int × Bs))(j:Nat)(hj:j<pend.length):jG sure (pend.take (j+1))=(jG sure (pend.take j)).set pend[j].1.toNat pend[j].2:=by
 unfold jG
 rw[List.take_succ_eq_append_getElem hj,List.foldl_append]
 rfl
structure PN(D:Dk):Prop where
 sure:∀x∈D.sure,x.length=256
 pend:∀x∈D.pend,x.2.length=256/\0<=x.1/\x.1<(D.sure.length:Int)
theorem E8{n:Nat} :∀ (pend:List (Int × Bs)) (sure:List Bs),(∀x∈sure,x.length=256)->(∀x∈pend,x.2.length=256/\0<=x.1/\x.1<(n:Int))->∀x∈jG sure pend,x.length=256:=by
 intro pend
 induction pend with
 |nil=>intro s hs _ x hx;exact hs x hx
 |cons y r ih=>
  intro s hs hp
  refine ih _ (fun x hx=> ?_) (fun x hx=>hp x (List.mem_cons_of_mem _ hx))
  rcases List.mem_or_eq_of_mem_set hx with h | rfl
  ·exact hs x h
  ·exact(hp y (List.mem_cons_self ..)).1
def Dk.synced(D:Dk):Dk:= { D with sure:=jG D.sure D.pend,now:=fun _=>none,pend:= [] }
structure He(d s m:Nat)(w w':World):Prop where
 os:w'.os=w.os
 tape:w'.tape=w.tape
 output:w'.output=w.output
 size:w.heap.size<=w'.heap.size
 block:∀k,k<w.heap.size->k≠d->k≠s->k≠m->w'.heap[k]? =w.heap[k]?
theorem Jv{w:World}{B d k:Nat}{D:Dk}{s m:Nat}{pv:Value}{Dm:DataW Value}(h:DAt w B d k D s m pv Dm)(hW:PN D)(hdn:D.down=false)(hp:D.pend.length<=1000000000000):
  Calls Tryz.prog 69 #[.pointer (some ⟨d,0,none⟩)] w fun e w'=>e= .returned (.int .i64 0)/\DAt w' B d 0 D.synced s m (.slice none 0 0) (.map [])/\He d s m w w':=by
 obtain⟨A,c,rfl⟩:=h.pend.form
 have hLS:=h.pend.ls
 have h4:=h.self.cell 4
 have h2:=h.self.cell 2
 simp only[dZ,hdn]at h4 h2
 have hdl:=h.self.lt
 have HH:=Lib.hid h
 have hds:d≠s:=h.self.ne_ h.sure (by decide)
 have hws:∀j (hj:j<D.pend.length),D.pend[j].2.length=256/\0<=D.pend[j].1/\D.pend[j].1<(D.sure.length:Int):=fun j hj=>hW.pend _ (List.getElem_mem hj)
 have hall:∀j,∀x∈jG D.sure (D.pend.take j),x.length=256:=fun j=>E8 (n:=D.sure.length) _ _ hW.sure (fun x hx=>hW.pend x (List.mem_of_mem_take hx))
 have Y1:=Lib.hid hall
 have HWS:=Lib.hid hws
 clear hws hall hW
 go_enter Tryz.func69,Tryz.ntmps69
 go_wp2
 go_loopw [14] (fun i wr=>∃j:Nat,j<=D.pend.length/\i= .int .i64 j/\Blk wr s 9 ((jG D.sure (D.pend.take j)).map str).toArray/\w.grownBy wr (some s)) (fun i _=>D.pend.length-(intOf i).toNat)
 case atStart=>exact⟨0,by omega,rfl,h.sure,World.grownBy.refl w _⟩
 case round=>
  obtain⟨j,hj,rfl,hs,hg⟩:=hrel
  have hself:=h.self.grown hg (fun e=>hds (Option.some.inj e))
  by_cases hlt:j<D.pend.length
  ·have hpe:LS MW wr wr.heap.size A D.pend:=(LO.keep h.pend hg (fun r e=>by cases e;exact⟨_,h.sure,fun cs e=>by injection e with _ e;cases e⟩)).ls
   obtain⟨b2,o2,rfl,hb2,hc⟩:=hpe.at_ hlt
   have g0:=hc 0 (by decide)
   have g1:=hc 1 (by decide)
   obtain⟨q1,q2,q3⟩:=HWS.out j hlt
   have hsu:=Ny D.sure D.pend j hlt
   have hlen:=sU (D.pend.take j) D.sure
   have hal:=Y1.out j
   rw[show o2+j*MW.size+0=o2+j*2 from rfl]at g0
   rw[show o2+j*MW.size+1=o2+j*2+1 from rfl]at g1
   generalize D.pend[j]=y at*
   obtain⟨q,t⟩:=y
   simp only at q1 q2 q3
   obtain⟨q,rfl⟩:=Int.eq_ofNat_of_zero_le q2
   have g0':wr.cell? ⟨b2,o2+j*2,none⟩=some (.int .i64 (q:Int)):=g0
   have g1':wr.cell? ⟨b2,o2+j*2+1,none⟩=some (str t):=g1
   clear g0 g1
   generalize hL:jG D.sure (D.pend.take j)=L at*
   have hql:q<L.length:=by omega
   have hcu:(L.map str).toArray[q]? =some (str L[q]):=by simp[hql]
   have hul:L[q].length=256:=hal _ (List.getElem_mem hql)
   have V9:=hself.alloc (.cells #[.int .i64 (q:Int),str t] 230)
   have hs1:=hs.alloc (.cells #[.int .i64 (q:Int),str t] 230)
   have hdo:=V8 (n:=D.sure.length) _ V9 hs1 (by omega) q1 hul hcu
   have HSU:=Lib.hid hsu
   have HDO:=Lib.hid hdo
   clear hdo hsu hcu hal V9 hs1
   generalize hcs:(L.map str).toArray=cs at*
   unfold str at g1' HDO
   go_wp2_with fail
   refine Calls.mono HDO.out ?_
   rintro e w1 ⟨⟨v,rfl⟩,rfl⟩
   have hgr:=EH (aQ (p:=⟨s,q,none⟩) (uI (uI hg (.cells #[.int .i64 (q:Int), .string ⟨t.toArray⟩] 230)) (.cells #[.int .i64 (q:Int), .string ⟨t.toArray⟩] 230)) (.inl rfl) (.string ⟨t.toArray⟩))
   have hbs:=((hs.alloc (.cells #[.int .i64 (q:Int), .string ⟨t.toArray⟩] 230)).alloc (.cells #[.int .i64 (q:Int), .string ⟨t.toArray⟩] 230)).aW q (.string ⟨t.toArray⟩)
   replace hbs:=hbs.drew
   have hce:cs.setIfInBounds q (.string ⟨t.toArray⟩)=((jG D.sure (D.pend.take (j+1))).map str).toArray:=by
    rw[HSU.out, <-hcs]
    simp[List.map_set,str]
   rw[hce]at hbs
   generalize ((((wr.alloc (.cells #[.int .i64 (q:Int), .string ⟨t.toArray⟩] 230)).alloc (.cells #[.int .i64 (q:Int), .string ⟨t.toArray⟩] 230)).setCell ⟨s,q,none⟩ (.string ⟨t.toArray⟩)).drew)=w2 at*
   go_wp2
   go_roundw
   case rel=>exact⟨j+1,by omega,by go_num,hbs,hgr⟩
   case measure=>simp[intOf];omega
  ·obtain rfl:j=D.pend.length:=by omega
   rw[List.take_of_length_le (Nat.le_refl _)]at hs
   obtain⟨es,cl,hm0,_⟩:=HH.out.map
   have hms:=HH.out.mne HH.out.sure
   have hmd:=HH.out.mne HH.out.self
   have hml:=(Array.getElem?_eq_some_iff.1 hm0).1
   have hm1:wr.heap[m]? =some (.map es cl):=(hg.block m hml (fun e=>hms (Option.some.inj e))).trans hm0
   have hse:=Nw (w:=wr) (d:=d) (s:=s) (n:=D.sure.length) (m:=m) (pv:= .slice A D.pend.length c) (v4:= .int .i64 D.left) (v5:= .bool D.down) (v6:= .int .i64 D.reads) (v7:= .int .i64 D.writes) hself hm1
   have hfin:DAt ((wr.setCell ⟨d,2,none⟩ (.slice none 0 0)).putObj m (.map #[] cl)) B d 0 D.synced s m (.slice none 0 0) (.map [])/\He d s m w ((wr.setCell ⟨d,2,none⟩ (.slice none 0 0)).putObj m (.map #[] cl)):=by
    have x1:=hself.aW 2 (.slice none 0 0)
    have x2:Blk (wr.setCell ⟨d,2,none⟩ (.slice none 0 0)) s 9 ((jG D.sure D.pend).map str).toArray:=hs.far (p:=⟨d,2,none⟩) (Ne.symm hds) _
    have x3:(wr.setCell ⟨d,2,none⟩ (.slice none 0 0)).heap[m]? =some (.map es cl):=(Below.heap_setCell wr ⟨d,2,none⟩ (.slice none 0 0) m hmd).trans hm1
    have x5:∀i,i<w.heap.size->i≠d->i≠s->(wr.setCell ⟨d,2,none⟩ (.slice none 0 0)).heap[i]? =w.heap[i]? :=fun i hi h1 h2=>(Below.heap_setCell wr ⟨d,2,none⟩ (.slice none 0 0) i h1).trans (hg.block i hi (fun e=>h2 (Option.some.inj e)))
    have x6:(wr.setCell ⟨d,2,none⟩ (.slice none 0 0)).heap.size=wr.heap.size:=by simp[World.setCell]
    have x7:(wr.setCell ⟨d,2,none⟩ (.slice none 0 0)).os=w.os/\(wr.setCell ⟨d,2,none⟩ (.slice none 0 0)).tape=w.tape/\(wr.setCell ⟨d,2,none⟩ (.slice none 0 0)).output=w.output:=⟨hg.os,hg.tape,hg.output⟩
    generalize wr.setCell ⟨d,2,none⟩ (.slice none 0 0)=W at*
    have y1:∀ {g:Nat} {ty:TypeId} {cs:Array Value},Blk W g ty cs->Blk (W.putObj m (.map #[] cl)) g ty cs:=fun {g ty cs} hb=>by
     have hne:m≠g:=fun e=>by subst e;unfold Blk at hb;rw[x3]at hb;cases hb
     exact(World.putObj_heap_other (Ne.symm hne)).trans hb
    have y2:(W.putObj m (.map #[] cl)).heap[m]? =some (.map #[] cl):=World.putObj_heap_same (Array.getElem?_eq_some_iff.1 x3).1
    refine⟨⟨HH.out.le, ?_,y1 x2,RP y2,fun i z=>⟨by simp[Maps.has,Dk.synced],by simp[DataW.atKey,Dk.synced]⟩,LO.nil_ _ _⟩,x7.1,x7.2.1,x7.2.2,by have:=hg.size;simp[World.putObj];omega,fun i hi h1 h2 h3=>(World.putObj_heap_other h3).trans (x5 i hi h1 h2)⟩
    have:=y1 x1
    have hlen:(jG D.sure D.pend).length=D.sure.length:=sU _ _
    unfold dZ Dk.synced
    simp only[hlen]
    exact this
   have oh:=Lib.hid hfin
   have HSE:=Lib.hid hse
   clear hfin hse
   go_wp2_with fail
   refine Calls.mono HSE.out ?_
   rintro e w1 ⟨⟨v,rfl⟩,rfl⟩
   go_wp2
   go_ret
   exact⟨rfl,oh.out⟩
structure Lim(D:Dk)(N:Nat):Prop where
 n:D.sure.length<=16384
 writes:0<=D.writes/\D.writes<=N
 reads:0<=D.reads/\D.reads<=N
 left: -1<=D.left/\D.left<=9223372036854775807
 pend:D.pend.length<=N
theorem Lim.fine{D:Dk}{N:Nat}(h:Lim D N)(hN:N<1000000000000):Fine D:=
 ⟨h.n,⟨h.writes.1,by have:=h.writes.2;omega⟩,⟨h.reads.1,by have:=h.reads.2;omega⟩,h.left,by have:=h.pend;omega⟩
theorem Lim.mono{D:Dk}{N M:Nat}(h:Lim D N)(hM:N<=M):Lim D M:=
 ⟨h.n,⟨h.writes.1,by have:=h.writes.2;omega⟩,⟨h.reads.1,by have:=h.reads.2;omega⟩,h.left,by have:=h.pend;omega⟩
theorem Lim.wrote{D:Dk}{N:Nat}(h:Lim D N)(i:Int)(t:Bs):Lim (D.wrote i t) (N+1):=by
 have h1:=h.writes
 have h2:=h.reads
 have h3:=h.left
 have h4:=h.pend
 have hp:(D.pend++ [(i,t)]).length<=N+1:=by rw[List.length_append];simp;omega
 unfold Dk.wrote Dk.put
 split
 ·exact⟨h.n,⟨by show 0<=D.writes+1;omega,by show D.writes+1<=_;omega⟩,⟨h2.1,by show D.reads<=_;omega⟩,⟨by show(-1:Int)<= -1;omega,by show(-1:Int)<=_;omega⟩,hp⟩
 ·split
  ·exact⟨h.n,⟨by show 0<=D.writes+1;omega,by show D.writes+1<=_;omega⟩,⟨h2.1,by show D.reads<=_;omega⟩,⟨by show -1<=D.left-1;omega,by show D.left-1<=_;omega⟩,hp⟩
  ·exact⟨h.n,⟨by show 0<=D.writes+1;omega,by show D.writes+1<=_;omega⟩,⟨h2.1,by show D.reads<=_;omega⟩,h3,hp⟩
theorem Lim.dW{D:Dk}{N:Nat}(h:Lim D N)(i:Int)(kind:Nat)(b:Bs):Lim (D.dW i kind b) (N+1):=by
 unfold Dk.dW
 split
 ·exact h.mono (by omega)
 ·split
  ·exact h.mono (by omega)
  ·split
   ·exact h.mono (by omega)
   ·exact h.wrote _ _
theorem Lim.bG{D:Dk}{N:Nat}(h:Lim D N)(i:Int):Lim (D.bG i) (N+1):=by
 have h2:=h.reads
 unfold Dk.bG
 split
 ·exact h.mono (by omega)
 ·split
  ·exact h.mono (by omega)
  ·exact⟨h.n,⟨h.writes.1,by have:=h.writes.2;show D.writes<=_;omega⟩,⟨by show 0<=D.reads+1;omega,by show D.reads+1<=_;omega⟩,h.left,by have:=h.pend;show D.pend.length<=_;omega⟩
theorem Jw{D:DataW Value}(h:Maps.IsMap D)(id x:Int)(v:DataW Value):Maps.has (D.put (.int .i64 id) v) (.int .i64 x)=(decide (x=id)||Maps.has D (.int .i64 x)):=by
 by_cases e:x=id
 ·subst e
  rw[Maps.has_put_same h (by trivial)];simp
 ·rw[Maps.has_put_other (by intro e2;injection e2 with _ e2;exact e e2)];simp[e]
theorem Wh(D:DataW Value)(id x:Int):Maps.has (D.del (.int .i64 id)) (.int .i64 x)=(!decide (x=id)&&Maps.has D (.int .i64 x)):=by
 by_cases e:x=id
 ·subst e
  rw[Maps.has_del_same];simp
 ·rw[Maps.has_del_other (by intro e2;injection e2 with _ e2;exact e e2)];simp[e]
end Go.Proofs.YteppebbmnojapaaGreatDoor
