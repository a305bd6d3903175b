/- Part of this proof. -/
import Derived.RangeFuncBox
import Derived.Deep.RegionWith
import GoSem.Op.String
import Derived.Lib.Strings
import Derived.Test.YtjoiajmbfbjnnaaGreatDoorQ12
import Derived.Test.YtjoiajmbfbjnnaaGreatDoorQ13
set_option maxRecDepth 100000
set_option maxHeartbeats 8000000
namespace Go.Proofs.YtjoiajmbfbjnnaaGreatDoor
open Go.RowKit Go.Shelf
attribute [local go_sem] Oper.semAt_some
def intE:Enc Int:=⟨fun x=> [.int .i64 x],1,fun _=>rfl,by decide,fun x u hu=>by simp at hu;subst hu;rfl⟩
theorem eiInt:EI Tryz.prog 3 (.int .i64 0) 1 8:=EI.mk (by kernel_rfl)
theorem LS.int{w:World}{B:Nat}{A:Option Addr}{l:List Int}(h:LS intE w B A l){k:Nat}(hk:k<l.length):∃b off,A=some ⟨b,off,none⟩/\b<B/\w.cell? ⟨b,off+k,none⟩=some (.int .i64 l[k]):=by
 obtain⟨b,off,rfl,hb,hc⟩:=h.at_ hk
 have h0:=hc 0 (by decide)
 refine⟨b,off,rfl,hb, ?_⟩
 have e:off+k*intE.size+0=off+k:=by show off+k*1+0=_;omega
 rw[e]at h0
 exact h0
end Go.Proofs.YtjoiajmbfbjnnaaGreatDoor
namespace Go.Proofs.YtjoiajmbfbjnnaaGreatDoor
open Go.RowKit Go.Shelf Go.Maps
theorem sortsC(m:Nat):AnyZI.SortsIn Tryz.prog Tryz.sortedC_ren Fence.wide m:=
 ⟨fun blk off cap ss W hH hblk hsz=>callsIn_wide.2 (AnyM.slices_Sort_int Tryz.sortC blk off cap ss W hH hblk hsz),
  fun p cap W=>callsIn_wide.2 (AnyM.slices_Sort_int_none Tryz.sortC p cap W)⟩
theorem ints_cells(l:List Int):intE.cells l=l.map (Value.int .i64):=by
 induction l with
 |nil=>rfl
 |cons a l ih=>rw[intE.cells_cons,ih];rfl
def TakenEnd2(D:DataW Value)(w:World)(e:Ending)(w':World):Prop:=∃A c ss,e= .returned (.slice A ss.length c)/\ss.Perm (intKeys D)/\ss.length=Maps.size D/\LO intE 3 w' w.heap.size (.slice A ss.length c) ss/\Below w.heap.size w w'
theorem taken_list(t m f n k:Nat)(free:List Run)(pages:Int)(D:DataW Value)(w:World)(hk:k<=1000000)(h:Txn w t m f n free pages k D):
  Calls Tryz.prog 88 #[.pointer (some ⟨t,0,none⟩)] w (TakenEnd2 D w):=by
 obtain⟨_,⟨v,h2,h3⟩,hown⟩:=h
 have hlt:=h2.lt
 have hc:=h2.cell 3
 have hsz:=hown.size_le
 have hlen:(intKeys D).length=Maps.size D:=by
  obtain⟨es,rfl⟩:=hown.isMap
  simp[intKeys,Maps.size]
 refine(callsIn_wide (n:=6)).1 ?_
 have hbl:=hown.lt
 have hseq:SeqGives Fence.wide 2 Tryz.prog 214 #[.pointer (some ⟨w.heap.size,0,none⟩)] encZ (fun ss=>ss.Perm (intKeys D)) (Maps.size D) (w.alloc (.cells #[.map (some m)] 141)):=
  AnyZI.keys_gives (ρ:=Tryz.keysC_ren) { Tryz.keysC with } Fence.wide _ trivial rfl (by omega) w.heap.size m k D _ (by simp) (by simp) (by
   obtain⟨es,clock,hb,Ft,hs,hD⟩:=hown
   exact⟨es,clock,(Below.heap_alloc _ _ m hbl).trans hb,Ft,hs,hD⟩)
 have cK:∀mb W,CallsIn Fence.wide 5 Tryz.prog 158 #[.map mb] W fun e w'=>e= .returned (.func (.func 214) #[] #[.pointer (some ⟨W.heap.size,0,none⟩)])/\w'=W.alloc (.cells #[.map mb] 141):=fun mb W=>AnyZI.keys_in Tryz.keysC Fence.wide 5 trivial rfl mb W
 have cS:=AnyZI.sorted_in Tryz.sortedC Fence.wide 5 trivial trivial trivial trivial rfl (by omega) (sortsC _) (enters_of Tryz.func184 (by kernel_rfl) rfl) 214 #[.pointer (some ⟨w.heap.size,0,none⟩)] trivial (enters_of Tryz.func214 (by kernel_rfl) rfl) _ _ (by unfold maxLen;omega) (by omega) _ hseq
 change CallsIn _ _ Tryz.prog 122 _ _ _ at cS
 have hfK:Fence.wide.fn 158:=trivial
 have hfS:Fence.wide.fn 122:=trivial
 refine callsIn_of_wp Tryz.func88 rfl trivial ?_ rfl
 simp only[Tryz.ntmps88,List.size_toArray,List.length_cons,List.length_nil,Nat.reduceAdd,Nat.reduceSub,Array.replicate_succ,Array.replicate_zero,List.push_toArray,List.append_toArray,List.nil_append,List.cons_append]
 gi_wp2_with (first
  |(gi_at_call 158;refine(cK _ _).mono ?_;rintro e w' ⟨rfl,rfl⟩)
  |(gi_at_call 122;refine cS.mono ?_;rintro e w' ⟨v,ss,rfl,hS,hrow,hnil,hb⟩))
 go_ret
 have hl:ss.length=Maps.size D:=hS.length_eq.trans hlen
 have hb0:Below w.heap.size w w':=((Below.refl _ w).alloc (Nat.le_refl _) _).trans (hb.mono (by simp))
 have hzl:(ss.mergeSort fun x y=>decide (x<=y)).length=ss.length:=List.length_mergeSort ss
 have hzp:(ss.mergeSort fun x y=>decide (x<=y)).Perm (intKeys D):=(List.mergeSort_perm ss _).trans hS
 have hLO:LO intE 3 w' w.heap.size v (ss.mergeSort fun x y=>decide (x<=y)):=by
  unfold LO
  rw[ints_cells,hzl]
  exact own_lower hrow (by simp)
 obtain⟨A,c,rfl⟩:=hLO.form
 exact⟨A,c,_,rfl,hzp,hzl.trans hl,hLO,hb0⟩
end Go.Proofs.YtjoiajmbfbjnnaaGreatDoor
namespace Go.Proofs.YtjoiajmbfbjnnaaGreatDoor
open Go.RowKit
end Go.Proofs.YtjoiajmbfbjnnaaGreatDoor
namespace Go.Proofs.YtjoiajmbfbjnnaaGreatDoor
open Go.RowKit Go.Shelf
def fileT(t:TypeId):Bool:=t==121||t==132||t==9||t==168
def Maps_(w w':World):Prop:=∀ (m:Nat) (es:Array MapEntry) (c:Nat),w.heap[m]? =some (.map es c)->w'.heap[m]? =some (.map es c)
structure KeepF(w w':World):Prop where
 blk:∀ (g:Nat) (t:TypeId) (cs:Array Value),Blk w g t cs->fileT t=true->Blk w' g t cs
 maps:Maps_ w w'
theorem LO.keepF{α:Type}{E:Enc α}{ty:TypeId}{w w':World}{base:Nat}{v:Value}{l:List α}(h:LO E ty w base v l)(hk:KeepF w w')(ht:fileT ty=true):LO E ty w' base v l:=by
 rcases h with⟨h3,h4 | ⟨g,cap,cur,hv,hb,hh,r⟩⟩
 ·exact⟨h3, .inl h4⟩
 ·exact⟨h3, .inr ⟨g,cap,cur,hv,hb,hk.blk g ty _ hh ht,r⟩⟩
theorem DAt.keepF{w w':World}{B d k:Nat}{D:Dk}{s m:Nat}{pv:Value}{Dm:DataW Value}(h:DAt w B d k D s m pv Dm)(hk:KeepF w w'):DAt w' B d k D s m pv Dm:=
 ⟨h.le,hk.blk _ _ _ h.self (by decide),hk.blk _ _ _ h.sure (by decide),by obtain⟨es,clock,hb,r⟩:=h.map;exact⟨es,clock,hk.maps _ _ _ hb,r⟩,h.now,h.pend.keepF hk (by decide)⟩
theorem FAt.keepF{w w':World}{B f d k:Nat}{D:Dk}(h:FAt w B f d k D)(hk:KeepF w w'):FAt w' B f d k D:=
 ⟨h.le,hk.blk _ _ _ h.self (by decide),by obtain⟨s,m,pv,Dm,h2⟩:=h.disk;exact⟨s,m,pv,Dm,h2.keepF hk⟩⟩
end Go.Proofs.YtjoiajmbfbjnnaaGreatDoor
namespace Go.Proofs.YtjoiajmbfbjnnaaGreatDoor
open Go.RowKit Go.Shelf Go.Maps
section
variable {w w':World}{B f d k kf t m m0 n:Nat}{Dd:Dk}{free:List Run}{pages:Int}{D:DataW Value}
theorem FAt.fileOf(h:FAt w B f d kf Dd):FileOf w f Dd.sure.length:=⟨d,h.self,h.disk.of_⟩
theorem own_keptR{base:Nat}{v:Value}{l:List Run}(h:Own w base v l)(hk:Kept w w'):Own w' base v l:=by
 rcases h with⟨h3,h4 | ⟨g,cap,cur,hv,hb,hh,r⟩⟩
 ·exact⟨h3, .inl h4⟩
 ·exact⟨h3, .inr ⟨g,cap,cur,hv,hb,hk g _ _ hh (by decide) (by decide),r⟩⟩
theorem Txn.keepW(h:Txn w t m f n free pages k D)(hk:Kept w w')(ho:OthM m0 w w')(hm:m≠m0)(hF:FAt w' B f d kf Dd)(hn:Dd.sure.length=n):Txn w' t m f n free pages k D:=by
 obtain⟨h1,⟨v,h2,h3⟩,es,c,h4,h5⟩:=h
 exact⟨hn ▸ hF.fileOf,⟨v,hk _ _ _ h2 (by decide) (by decide),own_keptR h3 hk⟩,es,c,ho m _ h4 rfl hm,h5⟩
end
theorem fput_len(D:Dk)(id:Int)(q:Nat)(b:Bs):(D.fput id q b).sure.length=D.sure.length:=by
 unfold Dk.fput Dk.wrote
 split
 ·rfl
 ·split
  ·rfl
  ·split
   ·rfl
   ·split
    ·rfl
    ·split<;>rfl
end Go.Proofs.YtjoiajmbfbjnnaaGreatDoor
namespace En
abbrev Str:=ByteArray
def lt(a b:Str):Bool:=Go.Op.bytesLess a.toList b.toList
theorem bl_irrefl:∀a:List UInt8,Go.Op.bytesLess a a=false
 | []=>rfl
 |x::a=>by simp[Go.Op.bytesLess,bl_irrefl a]
theorem bl_trans:∀a b c:List UInt8,Go.Op.bytesLess a b=true->Go.Op.bytesLess b c=true->Go.Op.bytesLess a c=true
 |_, [],_,h,_=>by cases ‹List UInt8› <;>simp[Go.Op.bytesLess]at h
 |_,_::_, [],_,h=>by simp[Go.Op.bytesLess]at h
 | [],_::_,_::_,_,_=>by simp[Go.Op.bytesLess]
 |x::a,y::b,z::c,h1,h2=>by
  simp only[Go.Op.bytesLess,Bool.or_eq_true,decide_eq_true_eq,Bool.and_eq_true,beq_iff_eq,UInt8.lt_iff_toNat_lt]at*
  rcases h1 with h1 | ⟨rfl,h1⟩<;>rcases h2 with h2 | ⟨rfl,h2⟩
  ·exact .inl (by omega)
  ·exact .inl h1
  ·exact .inl h2
  ·exact .inr ⟨rfl,bl_trans a b c h1 h2⟩
theorem bl_tri:∀a b:List UInt8,Go.Op.bytesLess a b=true\/a=b\/Go.Op.bytesLess b a=true
 | [], []=> .inr (.inl rfl)
 | [],_::_=> .inl rfl
 |_::_, []=> .inr (.inr rfl)
 |x::a,y::b=>by
  simp only[Go.Op.bytesLess,Bool.or_eq_true,decide_eq_true_eq,Bool.and_eq_true,beq_iff_eq,UInt8.lt_iff_toNat_lt,List.cons.injEq]
  rcases Nat.lt_trichotomy x.toNat y.toNat with h | h | h
  ·exact .inl (.inl h)
  ·have e:x=y:=UInt8.toNat_inj.1 h
   subst e
   rcases bl_tri a b with h1 | h1 | h1
   ·exact .inl (.inr ⟨rfl,h1⟩)
   ·exact .inr (.inl ⟨rfl,h1⟩)
   ·exact .inr (.inr (.inr ⟨rfl,h1⟩))
  ·exact .inr (.inr (.inl h))
theorem toList_inj{a b:Str}(h:a.toList=b.toList):a=b:=by
 rw[Go.Lib.toList_data,Go.Lib.toList_data]at h
 exact ByteArray.ext (Array.toList_inj.1 h)
theorem lt_irrefl(a:Str):lt a a=false:=bl_irrefl _
theorem lt_trans{a b c:Str}(h:lt a b=true)(h':lt b c=true):lt a c=true:=bl_trans _ _ _ h h'
theorem lt_tri(a b:Str):lt a b=true\/a=b\/lt b a=true:=by
 rcases bl_tri a.toList b.toList with h | h | h
 ·exact .inl h
 ·exact .inr (.inl (toList_inj h))
 ·exact .inr (.inr h)
theorem lt_ne{a b:Str}(h:lt a b=true):a≠b:=fun e=>by subst e;rw[lt_irrefl]at h;cases h
theorem lt_not{a b:Str}(h:lt a b=true):lt b a=false:=by
 cases h':lt b a with
 |false=>rfl
 |true=>have:=lt_trans h h';rw[lt_irrefl]at this;cases this
theorem ge_of{a b:Str}(h:lt a b=false):a=b\/lt b a=true:=by
 rcases lt_tri a b with h' | h' | h'
 ·rw[h]at h';cases h'
 ·exact .inl h'
 ·exact .inr h'
theorem lt_of_lt_ge{a b c:Str}(h:lt a b=true)(h':lt c b=false):lt a c=true:=by
 rcases ge_of h' with e | e
 ·subst e;exact h
 ·exact lt_trans h e
def eqs(a b:Str):Bool:=a.toList==b.toList
theorem eqs_iff{a b:Str} :eqs a b=true ↔ a=b:=by
 unfold eqs;rw[beq_iff_eq];exact⟨toList_inj,fun h=>by rw[h]⟩
theorem eqs_self(a:Str):eqs a a=true:=eqs_iff.2 rfl
theorem eqs_no{a b:Str}(h:a≠b):eqs a b=false:=by
 cases e:eqs a b with
 |false=>rfl
 |true=>exact absurd (eqs_iff.1 e) h
theorem eqs_false{a b:Str} :eqs a b=false ↔ a≠b:=⟨fun h e=>(by rw[e,eqs_self]at h;cases h),eqs_no⟩
abbrev Ent:=Str × Str
def may(k v:Str):Bool:=decide (1<=k.size)&&decide (k.size<=16)&&decide (v.size<=40)
def ahead(p:Option Str)(k:Str):Bool:=match p with | none=>true | some y=>lt y k
def rightFrom:Option Str->List Ent->Bool
 |_, []=>true
 |p,x::l=>may x.1 x.2&&ahead p x.1&&rightFrom (some x.1) l
def right(l:List Ent):Bool:=rightFrom none l
def Srt(l:List Ent):Prop:=l.Pairwise fun x y=>lt x.1 y.1=true
theorem rightFrom_iff:∀ (l:List Ent) (p:Option Str),rightFrom p l=true ↔ (∀x∈l,may x.1 x.2=true)/\(∀y,p=some y->∀x∈l,lt y x.1=true)/\Srt l
 | [],p=>by simp[rightFrom,Srt]
 |x::l,p=>by
  rw[rightFrom,Bool.and_eq_true,Bool.and_eq_true,rightFrom_iff l (some x.1)]
  unfold Srt
  rw[List.pairwise_cons]
  constructor
  ·rintro⟨⟨h1,h2⟩,h3,h4,h5⟩
   refine⟨fun y hy=> ?_,fun y hy z hz=> ?_,fun y hy=>h4 _ rfl y hy,h5⟩
   ·rcases List.mem_cons.1 hy with rfl | hy
    ·exact h1
    ·exact h3 y hy
   ·subst hy
    unfold ahead at h2;simp only at h2
    rcases List.mem_cons.1 hz with rfl | hz
    ·exact h2
    ·exact lt_trans h2 (h4 _ rfl z hz)
  ·rintro⟨h1,h2,h3,h4⟩
   refine⟨⟨h1 x List.mem_cons_self, ?_⟩,fun y hy=>h1 y (List.mem_cons_of_mem _ hy),fun y hy z hz=> ?_,h4⟩
   ·cases p with
    |none=>rfl
    |some y=>exact h2 y rfl x List.mem_cons_self
   ·injection hy with hy;subst hy;exact h3 z hz
theorem right_iff(l:List Ent):right l=true ↔ (∀x∈l,may x.1 x.2=true)/\Srt l:=by
 unfold right
 rw[rightFrom_iff]
 exact⟨fun h=>⟨h.1,h.2.2⟩,fun h=>⟨h.1,(fun y hy=>by cases hy),h.2⟩⟩
def prev(l:List Ent)(k:Nat):Option Str:=if k=0 then none else(l[k-1]?).map (·.1)
theorem right_at(l:List Ent)(k:Nat)(hk:k<l.length):rightFrom (prev l k) (l.drop k)=(may l[k].1 l[k].2&&ahead (prev l k) l[k].1&&rightFrom (prev l (k+1)) (l.drop (k+1))):=by
 rw[List.drop_eq_getElem_cons hk,rightFrom]
 have e:prev l (k+1)=some l[k].1:=by unfold prev;rw[if_neg (by omega)];simp[hk]
 rw[e]
theorem prev_succ(l:List Ent)(k:Nat)(hk:k<l.length)(h0:0<k):prev l k=some (l[k-1]'(by omega)).1:=by
 unfold prev;rw[if_neg (by omega)];simp[show k-1<l.length by omega]
def del(l:List Ent)(k:Str):List Ent:=l.filter fun x=> !eqs x.1 k
def ins(x:Ent):List Ent->List Ent
 | []=> [x]
 |y::l=>if lt x.1 y.1 then x::y::l else y::ins x l
def put(l:List Ent)(k v:Str):List Ent:=ins (k,v) (del l k)
def get(l:List Ent)(k:Str):Option Str:=(l.find? fun x=>eqs x.1 k).map (·.2)
theorem srt_cons{x:Ent}{l:List Ent} :Srt (x::l) ↔ (∀y∈l,lt x.1 y.1=true)/\Srt l:=List.pairwise_cons
theorem srt_del{l:List Ent}(h:Srt l)(k:Str):Srt (del l k):=List.Pairwise.sublist List.filter_sublist h
theorem mem_del{l:List Ent}{k:Str}{x:Ent} :x∈del l k ↔ x∈l/\x.1≠k:=by
 unfold del;rw[List.mem_filter,Bool.not_eq_true',eqs_false]
theorem mem_ins{x z:Ent} :∀ {l:List Ent},z∈ins x l ↔ z=x\/z∈l
 | []=>by simp[ins]
 |y::l=>by
  unfold ins
  split
  ·simp
  ·rw[List.mem_cons,mem_ins,List.mem_cons]
   constructor
   ·rintro(h | h | h)
    ·exact .inr (.inl h)
    ·exact .inl h
    ·exact .inr (.inr h)
   ·rintro(h | h | h)
    ·exact .inr (.inl h)
    ·exact .inl h
    ·exact .inr (.inr h)
theorem srt_ins{x:Ent} :∀ {l:List Ent},Srt l->(∀y∈l,y.1≠x.1)->Srt (ins x l)
 | [],_,_=>by simp[ins,Srt]
 |y::l,h,hn=>by
  obtain⟨h1,h2⟩:=srt_cons.1 h
  unfold ins
  split
  ·rename_i hx
   refine srt_cons.2 ⟨fun z hz=> ?_,h⟩
   rcases List.mem_cons.1 hz with rfl | hz
   ·exact hx
   ·exact lt_trans hx (h1 z hz)
  ·rename_i hx
   refine srt_cons.2 ⟨fun z hz=> ?_,srt_ins h2 fun z hz=>hn z (List.mem_cons_of_mem _ hz)⟩
   rcases mem_ins.1 hz with rfl | hz
   ·rcases ge_of (by simpa using hx)with e | e
    ·exact absurd e.symm (hn y List.mem_cons_self)
    ·exact e
   ·exact h1 z hz
theorem srt_put{l:List Ent}(h:Srt l)(k v:Str):Srt (put l k v):=srt_ins (srt_del h k) fun _ hy=>(mem_del.1 hy).2
theorem mem_put{l:List Ent}{k v:Str}{z:Ent} :z∈put l k v ↔ z=(k,v)\/(z∈l/\z.1≠k):=by
 unfold put;rw[mem_ins,mem_del]
theorem right_put{l:List Ent}{k v:Str}(h:right l=true)(hm:may k v=true):right (put l k v)=true:=by
 obtain⟨h1,h2⟩:=(right_iff l).1 h
 refine(right_iff _).2 ⟨fun x hx=> ?_,srt_put h2 k v⟩
 rcases mem_put.1 hx with rfl | hx
 ·exact hm
 ·exact h1 x hx.1
theorem right_del{l:List Ent}{k:Str}(h:right l=true):right (del l k)=true:=by
 obtain⟨h1,h2⟩:=(right_iff l).1 h
 exact(right_iff _).2 ⟨fun x hx=>h1 x (mem_del.1 hx).1,srt_del h2 k⟩
theorem srt_ext:∀ {a b:List Ent},Srt a->Srt b->(∀x,x∈a ↔ x∈b)->a=b
 | [], [],_,_,_=>rfl
 | [],y::b,_,_,h=>absurd ((h y).2 List.mem_cons_self) List.not_mem_nil
 |x::a, [],_,_,h=>absurd ((h x).1 List.mem_cons_self) List.not_mem_nil
 |x::a,y::b,ha,hb,h=>by
  obtain⟨a1,a2⟩:=srt_cons.1 ha
  obtain⟨b1,b2⟩:=srt_cons.1 hb
  have e:x=y:=by
   rcases List.mem_cons.1 ((h x).1 List.mem_cons_self)with e | hx
   ·exact e
   ·rcases List.mem_cons.1 ((h y).2 List.mem_cons_self)with e | hy
    ·exact e.symm
    ·have h1:=lt_trans (b1 x hx) (a1 y hy);rw[lt_irrefl]at h1;cases h1
  subst e
  rw[srt_ext a2 b2 fun z=> ?_]
  have hz:=h z
  rw[List.mem_cons,List.mem_cons]at hz
  constructor
  ·intro hm
   rcases hz.1 (.inr hm)with rfl | h'
   ·have:=a1 _ hm;rw[lt_irrefl]at this;cases this
   ·exact h'
  ·intro hm
   rcases hz.2 (.inr hm)with rfl | h'
   ·have:=b1 _ hm;rw[lt_irrefl]at this;cases this
   ·exact h'
theorem at_put{l:List Ent}(hs:Srt l){k v:Str}{i:Nat}(hi:i<=l.length)(h1:∀j (hj:j<l.length),j<i->lt l[j].1 k=true)(h2:∀j (hj:j<l.length),i<=j->lt l[j].1 k=false):
  (∀ (h:i<l.length),l[i].1=k->l.set i (k,v)=put l k v/\l.take i++l.drop (i+1)=del l k)/\((∀ (h:i<l.length),l[i].1≠k)->l.take i++(k,v)::l.drop i=put l k v/\del l k=l):=by
 have key:∀j (hj:j<l.length),l[j].1=k->j=i:=by
  intro j hj e
  by_cases hji:j<i
  ·have:=h1 j hj hji;rw[e,lt_irrefl]at this;cases this
  ·by_cases e2:j=i
   ·exact e2
   ·have h3:=List.pairwise_iff_getElem.1 hs i j (by omega) hj (by omega)
    rw[e,h2 i (by omega) (Nat.le_refl _)]at h3;cases h3
 constructor
 ·intro hil e
  have hset:Srt (l.set i (k,v)):=by
   unfold Srt
   rw[List.pairwise_iff_getElem]
   intro p q hp hq hpq
   have h3:=List.pairwise_iff_getElem.1 hs p q (by simpa using hp) (by simpa using hq) hpq
   rw[List.getElem_set,List.getElem_set]
   by_cases ep:i=p<;>by_cases eq:i=q
   ·omega
   ·rw[if_pos ep,if_neg eq];subst ep;simp only;rw[e]at h3;exact h3
   ·rw[if_neg ep,if_pos eq];subst eq;simp only;rw[e]at h3;exact h3
   ·rw[if_neg ep,if_neg eq];exact h3
  refine⟨srt_ext hset (srt_put hs k v) fun z=> ?_,srt_ext ?_ (srt_del hs k) fun z=> ?_⟩
  ·rw[mem_put,List.mem_iff_getElem]
   constructor
   ·rintro⟨j,hj,rfl⟩
    rw[List.getElem_set]
    by_cases ej:i=j
    ·rw[if_pos ej];exact .inl rfl
    ·rw[if_neg ej];exact .inr ⟨List.getElem_mem _,fun e'=>ej (key j (by simpa using hj) e').symm⟩
   ·rintro(rfl | ⟨hz,hzk⟩)
    ·exact⟨i,by simpa using hil,by simp⟩
    ·obtain⟨j,hj,rfl⟩:=List.getElem_of_mem hz
     refine⟨j,by simpa using hj, ?_⟩
     rw[List.getElem_set,if_neg]
     rintro rfl
     exact hzk e
  ·rw[<-List.eraseIdx_eq_take_drop_succ]
   exact List.Pairwise.sublist (List.eraseIdx_sublist l i) hs
  ·rw[mem_del, <-List.eraseIdx_eq_take_drop_succ,List.mem_eraseIdx_iff_getElem]
   constructor
   ·rintro⟨j,hj,hne,rfl⟩
    exact⟨List.getElem_mem _,fun e'=>hne (key j hj e')⟩
   ·rintro⟨hz,hzk⟩
    obtain⟨j,hj,rfl⟩:=List.getElem_of_mem hz
    exact⟨j,hj,fun e'=>by subst e';exact hzk e,rfl⟩
 ·intro hne
  have hno:∀z∈l,z.1≠k:=by
   intro z hz e
   obtain⟨j,hj,rfl⟩:=List.getElem_of_mem hz
   have:=key j hj e
   subst this
   exact hne hj e
  have hdel:del l k=l:=by
   unfold del
   rw[List.filter_eq_self]
   intro a ha
   rw[Bool.not_eq_true',eqs_false];exact hno a ha
  refine⟨srt_ext ?_ (srt_put hs k v) fun z=> ?_,hdel⟩
  ·have hsp:Srt (l.take i++l.drop i):=by rw[List.take_append_drop];exact hs
   unfold Srt at hsp ⊢
   rw[List.pairwise_append]at hsp ⊢
   obtain⟨p1,p2,p3⟩:=hsp
   refine⟨p1,List.pairwise_cons.2 ⟨fun y hy=> ?_,p2⟩,fun x hx y hy=> ?_⟩
   ·obtain⟨j,hj,rfl⟩:=List.getElem_of_mem hy
    rw[List.length_drop]at hj
    rw[List.getElem_drop]
    rcases ge_of (h2 (i+j) (by omega) (by omega))with e | e
    ·exact absurd e (hno _ (List.getElem_mem _))
    ·exact e
   ·have hxk:lt x.1 k=true:=by
     obtain⟨j,hj,rfl⟩:=List.getElem_of_mem hx
     rw[List.length_take]at hj
     rw[List.getElem_take]
     exact h1 j (by omega) (by omega)
    rcases List.mem_cons.1 hy with rfl | hy
    ·exact hxk
    ·exact p3 x hx y hy
  ·have hm:z∈l ↔ z∈l.take i\/z∈l.drop i:=by rw[<-List.mem_append,List.take_append_drop]
   rw[mem_put,List.mem_append,List.mem_cons]
   constructor
   ·rintro(h | h | h)
    ·exact .inr ⟨hm.2 (.inl h),hno z (hm.2 (.inl h))⟩
    ·exact .inl h
    ·exact .inr ⟨hm.2 (.inr h),hno z (hm.2 (.inr h))⟩
   ·rintro(h | ⟨h,_⟩)
    ·exact .inr (.inl h)
    ·rcases hm.1 h with h | h
     ·exact .inl h
     ·exact .inr (.inr h)
end En
namespace Go.Proofs.YtjoiajmbfbjnnaaGreatDoor
open Go.RowKit
abbrev Ent:=En.Ent
def entE:Enc Ent:=⟨fun x=> [.string x.1, .string x.2],2,fun _=>rfl,by decide,fun x u hu=>by simp at hu;rcases hu with rfl | rfl<;>rfl⟩
theorem eiEnt:EI Tryz.prog 34 (.agg #[.string ⟨#[]⟩, .string ⟨#[]⟩]) 2 32:=EI.mk (by kernel_rfl)
theorem LS.ent{w:World}{B:Nat}{A:Option Addr}{l:List Ent}(h:LS entE w B A l){k:Nat}(hk:k<l.length):∃b off,A=some ⟨b,off,none⟩/\b<B/\w.cell? ⟨b,off+k*2,none⟩=some (.string l[k].1)/\w.cell? ⟨b,off+k*2+1,none⟩=some (.string l[k].2):=by
 obtain⟨b,off,rfl,hb,hc⟩:=h.at_ hk
 exact⟨b,off,rfl,hb,hc 0 (by decide),hc 1 (by decide)⟩
theorem size_empty(s:ByteArray):s.toList.isEmpty=decide (s.size=0):=by
 rw[Lib.toList_data]
 cases h:s.data.toList with
 |nil=>have:s.size=0:=by rw[<-ByteArray.size_data, <-Array.length_toList,h];rfl
       rw[this];rfl
 |cons a l=>
  have:s.size=l.length+1:=by rw[<-ByteArray.size_data, <-Array.length_toList,h];rfl
  rw[this];simp
theorem may_any(k v:ByteArray)(w:World):Calls Tryz.prog 26 #[.string k, .string v] w fun e w'=>e= .returned (.bool (En.may k v))/\w'=w:=by
 have e:En.may k v=(decide (1<=(k.size:Int))&&decide ((k.size:Int)<=16)&&decide ((v.size:Int)<=40)):=by
  unfold En.may;rw[Bool.eq_iff_iff];simp;omega
 rw[e]
 clear e
 by_cases h1:1<=(k.size:Int)
 ·by_cases h2:(k.size:Int)<=16
  ·go_enter Tryz.func26,Tryz.ntmps26
   go_wp2
   go_ret
   exact⟨by rw[decide_eq_true h1,decide_eq_true h2];rfl,rfl⟩
  ·go_enter Tryz.func26,Tryz.ntmps26
   go_wp2
   go_ret
   exact⟨by rw[decide_eq_false (by omega:¬ (k.size:Int)<=16)];rfl,rfl⟩
 ·go_enter Tryz.func26,Tryz.ntmps26
  go_wp2
  go_ret
  exact⟨by rw[decide_eq_false (by omega:¬1<=(k.size:Int))];rfl,rfl⟩
theorem check_yes(k v:ByteArray)(w:World)(hm:En.may k v=true):Calls Tryz.prog 23 #[.string k, .string v] w fun e w'=>e= .returned (.int .i64 0)/\w'=w:=by
 unfold En.may at hm
 simp only[Bool.and_eq_true,decide_eq_true_eq]at hm
 have h1:k.toList.isEmpty=false:=by rw[size_empty];exact decide_eq_false (by omega)
 have h2:decide (16<(k.size:Int))=false:=by simp;omega
 have h3:decide (40<(v.size:Int))=false:=by simp;omega
 clear hm
 go_enter Tryz.func23,Tryz.ntmps23
 go_wp2
 go_ret
 exact⟨rfl,rfl⟩
theorem check_no(k v:ByteArray)(w:World)(hm:En.may k v=false):Calls Tryz.prog 23 #[.string k, .string v] w fun e w'=>e= .returned (.int .i64 110)/\w'=w:=by
 unfold En.may at hm
 simp only[Bool.and_eq_false_iff,decide_eq_false_iff_not]at hm
 by_cases g1:k.size=0
 ·have h1:k.toList.isEmpty=true:=by rw[size_empty];exact decide_eq_true g1
  clear hm g1
  go_enter Tryz.func23,Tryz.ntmps23
  go_wp2
  go_ret
  exact⟨rfl,rfl⟩
 ·have h1:k.toList.isEmpty=false:=by rw[size_empty];exact decide_eq_false g1
  by_cases g2:k.size<=16
  ·have h2:decide (16<(k.size:Int))=false:=by simp;omega
   have h3:decide (40<(v.size:Int))=true:=by simp;omega
   clear hm g1
   go_enter Tryz.func23,Tryz.ntmps23
   go_wp2
   go_ret
   exact⟨rfl,rfl⟩
  ·have h2:decide (16<(k.size:Int))=true:=by simp;omega
   clear hm g1
   go_enter Tryz.func23,Tryz.ntmps23
   go_wp2
   go_ret
   exact⟨rfl,rfl⟩
def chk(k v:ByteArray):Int:=if En.may k v then 0 else 110
theorem check_any(k v:ByteArray)(w:World):Calls Tryz.prog 23 #[.string k, .string v] w fun e w'=>e= .returned (.int .i64 (chk k v))/\w'=w:=by
 unfold chk
 cases hm:En.may k v with
 |true=>exact check_yes k v w hm
 |false=>exact check_no k v w hm
theorem chk_yes{k v:ByteArray}(h:En.may k v=true):chk k v=0:=by unfold chk;rw[h];rfl
theorem chk_no{k v:ByteArray}(h:En.may k v=false):chk k v=110:=by unfold chk;rw[h];rfl
theorem right_any(A:Option Addr)(c:Nat)(l:List Ent)(w:World)(hr:LS entE w w.heap.size A l)(hl:l.length<=1000000):
  Calls Tryz.prog 141 #[.slice A l.length c] w fun e w'=>e= .returned (.bool (En.right l))/\Below w.heap.size w w':=by
 obtain⟨R,hR⟩:∃R,R=En.right l:=⟨_,rfl⟩
 rw[<-hR]
 have HR:=Lib.hid hR
 clear hR
 go_enter Tryz.func141,Tryz.ntmps141
 go_wp2
 go_loopw [3,4,7] (fun _ _ i wr=>∃k:Nat,k<=l.length/\i= .int .i64 k/\Hid (En.right l=En.rightFrom (En.prev l k) (l.drop k))/\Below w.heap.size w wr) (fun _ _ i _=>l.length-(intOf i).toNat)
 case atStart=>exact⟨0,by omega,rfl,Lib.hid rfl,Below.refl _ _⟩
 case round=>
  obtain⟨k,hk,rfl,HK,hbe⟩:=hrel
  by_cases hlt:k<l.length
  ·obtain⟨b1,o1,rfl,hb1,g0,g1⟩:=(hr.below hbe).ent hlt
   have hat:=Lib.hid (En.right_at l k hlt)
   generalize hx:l[k]=x at*
   obtain⟨x1,x2⟩:=x
   have hb1':b1<wr.heap.size:=by have:=hbe.size;omega
   cases hm:En.may x1 x2 with
   |false=>
    have hc:=fun W=>hid_calls (check_any x1 x2 W)
    rw[chk_no hm]at hc
    have HM:=Lib.hid hm
    clear hm
    go_wp2_with fail
    go_quiet ((go_at_call 23;exact Calls.quiet_of_same (hc _).out))
    go_wp2
    go_ret
    exact⟨by rw[HR.out,HK.out,hat.out,HM.out];rfl,below_drewN (hbe.alloc hbe.size _) _⟩
   |true=>
    have hc:=fun W=>hid_calls (check_any x1 x2 W)
    rw[chk_yes hm]at hc
    have HM:=Lib.hid hm
    clear hm
    by_cases h0:k=0
    ·subst h0
     simp only[Nat.zero_mul,Nat.add_zero]at g0 g1
     go_wp2_with fail
     go_quiet ((go_at_call 23;exact Calls.quiet_of_same (hc _).out))
     go_wp2
     go_roundw
     case rel=>
      refine⟨1,by omega,rfl, ?_,below_drewN (hbe.alloc hbe.size _) _⟩
      refine Lib.hid ?_
      rw[HK.out,hat.out,HM.out];rfl
     case measure=>simp[intOf];omega
    ·obtain⟨q,rfl⟩:∃q,k=q+1:=⟨k-1,by omega⟩
     obtain⟨b2,o2,e2,hb2,f0,f1⟩:=(hr.below hbe).ent (show q<l.length by omega)
     injection e2 with e2;injection e2 with e2 e3;subst e2 e3
     have hp:=Lib.hid (En.prev_succ l (q+1) hlt (by omega))
     generalize hz:l[q]=z at*
     cases hlz:En.lt z.1 x1 with
     |true=>
      have hbl:Op.bytesLess z.1.toList x1.toList=true:=hlz
      have HL:=Lib.hid hlz
      clear hlz f1 h0
      go_wp2_with fail
      go_quiet ((go_at_call 23;exact Calls.quiet_of_same (hc _).out))
      go_wp2
      go_roundw
      case rel=>
       refine⟨q+1+1,by omega,by go_num, ?_,below_drewN (hbe.alloc hbe.size _) _⟩
       refine Lib.hid ?_
       rw[HK.out,hat.out,hp.out,HM.out]
       simp only[Nat.add_sub_cancel,hz]
       unfold En.ahead
       simp only
       rw[HL.out];simp
      case measure=>simp[intOf];omega
     |false=>
      have hbl:Op.bytesLess z.1.toList x1.toList=false:=hlz
      have HL:=Lib.hid hlz
      clear hlz f1 h0
      go_wp2_with fail
      go_quiet ((go_at_call 23;exact Calls.quiet_of_same (hc _).out))
      go_wp2
      go_ret
      refine⟨?_,below_drewN (hbe.alloc hbe.size _) _⟩
      rw[HR.out,HK.out,hat.out,hp.out]
      simp only[Nat.add_sub_cancel,hz]
      unfold En.ahead
      simp only
      rw[HL.out];simp
  ·obtain rfl:k=l.length:=by omega
   go_wp2
   go_ret
   refine⟨?_,hbe⟩
   rw[HR.out,HK.out,List.drop_of_length_le (Nat.le_refl _)];rfl
theorem rright_any(A:Option Addr)(c:Nat)(l:List Ent)(w:World)(hr:LS entE w w.heap.size A l)(hl:l.length<=1000000):
  Calls Tryz.prog 106 #[.slice A l.length c] w fun e w'=>e= .returned (.bool (En.right l))/\Below w.heap.size w w':=by
 obtain⟨R,hR⟩:∃R,R=En.right l:=⟨_,rfl⟩
 rw[<-hR]
 have HR:=Lib.hid hR
 clear hR
 go_enter Tryz.func106,Tryz.ntmps106
 go_wp2
 go_loopw [3,4] (fun i _ wr=>∃k:Nat,k<=l.length/\i= .int .i64 k/\Hid (En.right l=En.rightFrom (En.prev l k) (l.drop k))/\Below w.heap.size w wr) (fun i _ _=>l.length-(intOf i).toNat)
 case atStart=>exact⟨0,by omega,rfl,Lib.hid rfl,Below.refl _ _⟩
 case round=>
  obtain⟨k,hk,rfl,HK,hbe⟩:=hrel
  by_cases hlt:k<l.length
  ·obtain⟨b1,o1,rfl,hb1,g0,g1⟩:=(hr.below hbe).ent hlt
   have hat:=Lib.hid (En.right_at l k hlt)
   generalize hx:l[k]=x at*
   obtain⟨x1,x2⟩:=x
   have hb1':b1<wr.heap.size:=by have:=hbe.size;omega
   have hc:=fun W=>hid_calls (may_any x1 x2 W)
   cases hm:En.may x1 x2 with
   |false=>
    rw[hm]at hc
    have HM:=Lib.hid hm
    clear hm
    go_wp2_with fail
    go_quiet ((go_at_call 26;exact Calls.quiet_of_same (hc _).out))
    go_wp2_with fail
    go_quiet (fail)
    go_wp2
    go_ret
    exact⟨by rw[HR.out,HK.out,hat.out,HM.out];rfl,(by first | exact below_drewN (below_drewN hbe _) _ | exact below_drewN hbe _)⟩
   |true=>
    rw[hm]at hc
    have HM:=Lib.hid hm
    clear hm
    by_cases h0:k=0
    ·subst h0
     simp only[Nat.zero_mul,Nat.add_zero]at g0 g1
     go_wp2_with fail
     go_quiet ((go_at_call 26;exact Calls.quiet_of_same (hc _).out))
     go_wp2_with fail
     go_quiet (fail)
     go_wp2
     go_roundw
     case rel=>
      refine⟨1,by omega,rfl, ?_,(by first | exact below_drewN (below_drewN hbe _) _ | exact below_drewN hbe _)⟩
      refine Lib.hid ?_
      rw[HK.out,hat.out,HM.out];rfl
     case measure=>simp[intOf];omega
    ·obtain⟨q,rfl⟩:∃q,k=q+1:=⟨k-1,by omega⟩
     obtain⟨b2,o2,e2,hb2,f0,f1⟩:=(hr.below hbe).ent (show q<l.length by omega)
     injection e2 with e2;injection e2 with e2 e3;subst e2 e3
     have hp:=Lib.hid (En.prev_succ l (q+1) hlt (by omega))
     generalize hz:l[q]=z at*
     cases hlz:En.lt z.1 x1 with
     |true=>
      have hbl:Op.bytesLess z.1.toList x1.toList=true:=hlz
      have HL:=Lib.hid hlz
      clear hlz f1 h0
      go_wp2_with fail
      go_quiet ((go_at_call 26;exact Calls.quiet_of_same (hc _).out))
      go_wp2_with fail
      go_quiet (fail)
      go_wp2
      go_roundw
      case rel=>
       refine⟨q+1+1,by omega,by go_num, ?_,(by first | exact below_drewN (below_drewN hbe _) _ | exact below_drewN hbe _)⟩
       refine Lib.hid ?_
       rw[HK.out,hat.out,hp.out,HM.out]
       simp only[Nat.add_sub_cancel,hz]
       unfold En.ahead
       simp only
       rw[HL.out];simp
      case measure=>simp[intOf];omega
     |false=>
      have hbl:Op.bytesLess z.1.toList x1.toList=false:=hlz
      have HL:=Lib.hid hlz
      clear hlz f1 h0
      go_wp2_with fail
      go_quiet ((go_at_call 26;exact Calls.quiet_of_same (hc _).out))
      go_wp2_with fail
      go_quiet (fail)
      go_wp2
      go_ret
      refine⟨?_,(by first | exact below_drewN (below_drewN hbe _) _ | exact below_drewN hbe _)⟩
      rw[HR.out,HK.out,hat.out,hp.out]
      simp only[Nat.add_sub_cancel,hz]
      unfold En.ahead
      simp only
      rw[HL.out];simp
  ·obtain rfl:k=l.length:=by omega
   go_wp2
   go_ret
   refine⟨?_,hbe⟩
   rw[HR.out,HK.out,List.drop_of_length_le (Nat.le_refl _)];rfl
theorem rsame_yes(A B:Option Addr)(l:List Ent)(c d:Nat)(w:World)(ha:LS entE w w.heap.size A l)(hb:LS entE w w.heap.size B l)(hl:l.length<=1000000):
  Calls Tryz.prog 48 #[.slice A l.length c, .slice B l.length d] w fun e w'=>e= .returned (.bool true)/\Below w.heap.size w w':=by
 go_enter Tryz.func48,Tryz.ntmps48
 go_wp2
 go_loopw [5] (fun i wr=>∃k:Nat,k<=l.length/\i= .int .i64 k/\Below w.heap.size w wr) (fun i _=>l.length-(intOf i).toNat)
 case atStart=>exact⟨0,by omega,rfl,Below.refl _ _⟩
 case round=>
  obtain⟨k,hk,rfl,hbe⟩:=hrel
  by_cases hlt:k<l.length
  ·obtain⟨b1,o1,rfl,_,g0,g1⟩:=(ha.below hbe).ent hlt
   obtain⟨b2,o2,rfl,_,g2,g3⟩:=(hb.below hbe).ent hlt
   go_wp2
   go_quiet (fail)
   go_wp2
   go_roundw
   case rel=>exact⟨k+1,by omega,by go_num,below_drewN hbe _⟩
   case measure=>simp[intOf];omega
  ·go_wp2
   go_ret
   exact⟨rfl,hbe⟩
end Go.Proofs.YtjoiajmbfbjnnaaGreatDoor
