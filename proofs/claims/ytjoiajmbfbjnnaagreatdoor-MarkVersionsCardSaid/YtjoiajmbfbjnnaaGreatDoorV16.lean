/- Part of this proof. -/
import Derived.RangeFuncBox
import Derived.Deep.RegionWith
import Derived.Test.YtjoiajmbfbjnnaaGreatDoorV14
import Derived.Test.YtjoiajmbfbjnnaaGreatDoorV15
set_option maxRecDepth 100000
set_option maxHeartbeats 8000000
namespace Go.Proofs.YtjoiajmbfbjnnaaGreatDoor
open Go.RowKit Go.Shelf
attribute [local go_sem] Oper.semAt_some
def intE:Enc Int:=⟨fun x=> [.int .i64 x],1,fun _=>rfl,by decide,fun x u hu=>by simp at hu;subst hu;rfl⟩
theorem eiInt:EI Tryz.prog 3 (.int .i64 0) 1 8:=EI.mk (by kernel_rfl)
theorem LS.int{w:World}{B:Nat}{A:Option Addr}{l:List Int}(h:LS intE w B A l){k:Nat}(hk:k<l.length):∃b off,A=some ⟨b,off,none⟩/\b<B/\w.cell? ⟨b,off+k,none⟩=some (.int .i64 l[k]):=by
 obtain⟨b,off,rfl,hb,hc⟩:=h.at_ hk
 have h0:=hc 0 (by decide)
 refine⟨b,off,rfl,hb, ?_⟩
 have e:off+k*intE.size+0=off+k:=by show off+k*1+0=_;omega
 rw[e]at h0
 exact h0
end Go.Proofs.YtjoiajmbfbjnnaaGreatDoor
namespace Go.Proofs.YtjoiajmbfbjnnaaGreatDoor
open Go.RowKit Go.Shelf Go.Maps
theorem sortsC(m:Nat):AnyZI.SortsIn Tryz.prog Tryz.sortedC_ren Fence.wide m:=
 ⟨fun blk off cap ss W hH hblk hsz=>callsIn_wide.2 (AnyM.slices_Sort_int Tryz.sortC blk off cap ss W hH hblk hsz),
  fun p cap W=>callsIn_wide.2 (AnyM.slices_Sort_int_none Tryz.sortC p cap W)⟩
theorem ints_cells(l:List Int):intE.cells l=l.map (Value.int .i64):=by
 induction l with
 |nil=>rfl
 |cons a l ih=>rw[intE.cells_cons,ih];rfl
def TakenEnd2(D:DataW Value)(w:World)(e:Ending)(w':World):Prop:=∃A c ss,e= .returned (.slice A ss.length c)/\ss.Perm (intKeys D)/\ss.length=Maps.size D/\LO intE 3 w' w.heap.size (.slice A ss.length c) ss/\Below w.heap.size w w'
theorem taken_list(t m f n k:Nat)(free:List Run)(pages:Int)(D:DataW Value)(w:World)(hk:k<=1000000)(h:Txn w t m f n free pages k D):
  Calls Tryz.prog 88 #[.pointer (some ⟨t,0,none⟩)] w (TakenEnd2 D w):=by
 obtain⟨_,⟨v,h2,h3⟩,hown⟩:=h
 have hlt:=h2.lt
 have hc:=h2.cell 3
 have hsz:=hown.size_le
 have hlen:(intKeys D).length=Maps.size D:=by
  obtain⟨es,rfl⟩:=hown.isMap
  simp[intKeys,Maps.size]
 refine(callsIn_wide (n:=6)).1 ?_
 have hbl:=hown.lt
 have hseq:SeqGives Fence.wide 2 Tryz.prog 214 #[.pointer (some ⟨w.heap.size,0,none⟩)] encZ (fun ss=>ss.Perm (intKeys D)) (Maps.size D) (w.alloc (.cells #[.map (some m)] 141)):=
  AnyZI.keys_gives (ρ:=Tryz.keysC_ren) { Tryz.keysC with } Fence.wide _ trivial rfl (by omega) w.heap.size m k D _ (by simp) (by simp) (by
   obtain⟨es,clock,hb,Ft,hs,hD⟩:=hown
   exact⟨es,clock,(Below.heap_alloc _ _ m hbl).trans hb,Ft,hs,hD⟩)
 have cK:∀mb W,CallsIn Fence.wide 5 Tryz.prog 158 #[.map mb] W fun e w'=>e= .returned (.func (.func 214) #[] #[.pointer (some ⟨W.heap.size,0,none⟩)])/\w'=W.alloc (.cells #[.map mb] 141):=fun mb W=>AnyZI.keys_in Tryz.keysC Fence.wide 5 trivial rfl mb W
 have cS:=AnyZI.sorted_in Tryz.sortedC Fence.wide 5 trivial trivial trivial trivial rfl (by omega) (sortsC _) (enters_of Tryz.func184 (by kernel_rfl) rfl) 214 #[.pointer (some ⟨w.heap.size,0,none⟩)] trivial (enters_of Tryz.func214 (by kernel_rfl) rfl) _ _ (by unfold maxLen;omega) (by omega) _ hseq
 change CallsIn _ _ Tryz.prog 122 _ _ _ at cS
 have hfK:Fence.wide.fn 158:=trivial
 have hfS:Fence.wide.fn 122:=trivial
 refine callsIn_of_wp Tryz.func88 rfl trivial ?_ rfl
 simp only[Tryz.ntmps88,List.size_toArray,List.length_cons,List.length_nil,Nat.reduceAdd,Nat.reduceSub,Array.replicate_succ,Array.replicate_zero,List.push_toArray,List.append_toArray,List.nil_append,List.cons_append]
 gi_wp2_with (first
  |(gi_at_call 158;refine(cK _ _).mono ?_;rintro e w' ⟨rfl,rfl⟩)
  |(gi_at_call 122;refine cS.mono ?_;rintro e w' ⟨v,ss,rfl,hS,hrow,hnil,hb⟩))
 go_ret
 have hl:ss.length=Maps.size D:=hS.length_eq.trans hlen
 have hb0:Below w.heap.size w w':=((Below.refl _ w).alloc (Nat.le_refl _) _).trans (hb.mono (by simp))
 have hzl:(ss.mergeSort fun x y=>decide (x<=y)).length=ss.length:=List.length_mergeSort ss
 have hzp:(ss.mergeSort fun x y=>decide (x<=y)).Perm (intKeys D):=(List.mergeSort_perm ss _).trans hS
 have hLO:LO intE 3 w' w.heap.size v (ss.mergeSort fun x y=>decide (x<=y)):=by
  unfold LO
  rw[ints_cells,hzl]
  exact own_lower hrow (by simp)
 obtain⟨A,c,rfl⟩:=hLO.form
 exact⟨A,c,_,rfl,hzp,hzl.trans hl,hLO,hb0⟩
end Go.Proofs.YtjoiajmbfbjnnaaGreatDoor
namespace Go.Proofs.YtjoiajmbfbjnnaaGreatDoor
open Go.RowKit
end Go.Proofs.YtjoiajmbfbjnnaaGreatDoor
namespace Go.Proofs.YtjoiajmbfbjnnaaGreatDoor
open Go.RowKit Go.Shelf
def fileT(t:TypeId):Bool:=t==121||t==132||t==9||t==168
def Maps_(w w':World):Prop:=∀ (m:Nat) (es:Array MapEntry) (c:Nat),w.heap[m]? =some (.map es c)->w'.heap[m]? =some (.map es c)
structure KeepF(w w':World):Prop where
 blk:∀ (g:Nat) (t:TypeId) (cs:Array Value),Blk w g t cs->fileT t=true->Blk w' g t cs
 maps:Maps_ w w'
theorem LO.keepF{α:Type}{E:Enc α}{ty:TypeId}{w w':World}{base:Nat}{v:Value}{l:List α}(h:LO E ty w base v l)(hk:KeepF w w')(ht:fileT ty=true):LO E ty w' base v l:=by
 rcases h with⟨h3,h4 | ⟨g,cap,cur,hv,hb,hh,r⟩⟩
 ·exact⟨h3, .inl h4⟩
 ·exact⟨h3, .inr ⟨g,cap,cur,hv,hb,hk.blk g ty _ hh ht,r⟩⟩
theorem DAt.keepF{w w':World}{B d k:Nat}{D:Dk}{s m:Nat}{pv:Value}{Dm:DataW Value}(h:DAt w B d k D s m pv Dm)(hk:KeepF w w'):DAt w' B d k D s m pv Dm:=
 ⟨h.le,hk.blk _ _ _ h.self (by decide),hk.blk _ _ _ h.sure (by decide),by obtain⟨es,clock,hb,r⟩:=h.map;exact⟨es,clock,hk.maps _ _ _ hb,r⟩,h.now,h.pend.keepF hk (by decide)⟩
theorem FAt.keepF{w w':World}{B f d k:Nat}{D:Dk}(h:FAt w B f d k D)(hk:KeepF w w'):FAt w' B f d k D:=
 ⟨h.le,hk.blk _ _ _ h.self (by decide),by obtain⟨s,m,pv,Dm,h2⟩:=h.disk;exact⟨s,m,pv,Dm,h2.keepF hk⟩⟩
end Go.Proofs.YtjoiajmbfbjnnaaGreatDoor
namespace Go.Proofs.YtjoiajmbfbjnnaaGreatDoor
open Go.RowKit Go.Shelf Go.Maps
section
variable {w w':World}{B f d k kf t m m0 n:Nat}{Dd:Dk}{free:List Run}{pages:Int}{D:DataW Value}
theorem FAt.fileOf(h:FAt w B f d kf Dd):FileOf w f Dd.sure.length:=⟨d,h.self,h.disk.of_⟩
theorem own_keptR{base:Nat}{v:Value}{l:List Run}(h:Own w base v l)(hk:Kept w w'):Own w' base v l:=by
 rcases h with⟨h3,h4 | ⟨g,cap,cur,hv,hb,hh,r⟩⟩
 ·exact⟨h3, .inl h4⟩
 ·exact⟨h3, .inr ⟨g,cap,cur,hv,hb,hk g _ _ hh (by decide) (by decide),r⟩⟩
theorem Txn.keepW(h:Txn w t m f n free pages k D)(hk:Kept w w')(ho:OthM m0 w w')(hm:m≠m0)(hF:FAt w' B f d kf Dd)(hn:Dd.sure.length=n):Txn w' t m f n free pages k D:=by
 obtain⟨h1,⟨v,h2,h3⟩,es,c,h4,h5⟩:=h
 exact⟨hn ▸ hF.fileOf,⟨v,hk _ _ _ h2 (by decide) (by decide),own_keptR h3 hk⟩,es,c,ho m _ h4 rfl hm,h5⟩
end
theorem fput_len(D:Dk)(id:Int)(q:Nat)(b:Bs):(D.fput id q b).sure.length=D.sure.length:=by
 unfold Dk.fput Dk.wrote
 split
 ·rfl
 ·split
  ·rfl
  ·split
   ·rfl
   ·split
    ·rfl
    ·split<;>rfl
end Go.Proofs.YtjoiajmbfbjnnaaGreatDoor
