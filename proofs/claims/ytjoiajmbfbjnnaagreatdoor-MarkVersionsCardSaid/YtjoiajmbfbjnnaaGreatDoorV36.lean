/- Part of this proof. -/
import Derived.Deep.Slices
import Derived.Deep.Fields
import Derived.ChangeSame
import Derived.ProofKit
import Derived.SliceStrings
import Derived.Deep.Grids
import Derived.LaidMore
import Derived.Lay
import Derived.OpenShut
import Derived.Test.YtjoiajmbfbjnnaaGreatDoorV35
import Derived.Test.YtjoiajmbfbjnnaaGreatDoorRows
set_option maxRecDepth 100000
set_option maxHeartbeats 8000000
namespace Go.Proofs.YtjoiajmbfbjnnaaGreatDoor
open Go.RowKit Go.Shelf
section
variable {S:Nat->Prop}{B t:Nat}{room:Int}{disk:Tp.Disk}{TM:Nat->Tp.Pst->World->Prop}
def CbEnd(S:Nat->Prop)(B t u:Nat)(TM:Nat->Tp.Pst->World->Prop)(root:Int)(r:Nat)(σ:Tp.Pst)(w:World)(e:Ending)(w':World):Prop:=
 e= .returned (.tuple #[.slice none 0 0, .int .i64 0])/\On S B t u TM root 0 r σ w'/\Fr S w w'
theorem callb_none(u:Nat)(root:Int)(frm hi_:ByteArray)(r:Nat)(σ:Tp.Pst)(w:World)
  (hS:Calls Tryz.prog 66 #[.pointer (some ⟨u,0,none⟩), .string frm, .string hi_] w (ScEnd S B t u TM root r σ [] w)):
  Calls Tryz.prog 176 #[.pointer (some ⟨u,0,none⟩), .string frm, .string hi_, .func (.func 177) #[] #[]] w (CbEnd S B t u TM root r σ w):=by
 have HS:=Lib.hid hS
 clear hS
 go_enter Tryz.func176,Tryz.ntmps176
 go_wp2_with fail
 refine(HS.out).mono ?_
 rintro e w1 ⟨A0,c0,rfl,hl,hon,hf⟩
 have HON:=Lib.hid hon
 have HF:=Lib.hid hf
 clear hl hon hf HS
 rw[List.length_nil]
 go_wp2
 go_loopw [12,29] (fun o i wr=>o= .slice none 0 0/\i= .int .i64 0/\wr=w1) (fun _ _ _=>0)
 case atStart=>exact⟨rfl,rfl,rfl⟩
 case round=>
  obtain⟨rfl,rfl,rfl⟩:=hrel
  go_wp2
  go_ret2
  exact⟨rfl,HON.out,HF.out⟩
theorem cbranches_none(c u:Nat)(root:Int)(r:Nat)(σ:Tp.Pst)(w:World)(hc:Blk w c 186 #[.pointer (some ⟨u,0,none⟩)])
  (hS:Calls Tryz.prog 66 #[.pointer (some ⟨u,0,none⟩), .string ⟨#[72]⟩, .string ⟨#[73]⟩] w (ScEnd S B t u TM root r σ [] w)):
  Calls Tryz.prog 114 #[.pointer (some ⟨c,0,none⟩)] w (CbEnd S B t u TM root r σ w):=by
 have HC:=Lib.hid (callb_none u root ⟨#[72]⟩ ⟨#[73]⟩ r σ w hS)
 have c0:=hc.cell 0
 clear hS
 go_enter Tryz.func114,Tryz.ntmps114
 go_wp2_with fail
 refine HC.out.mono ?_
 rintro e w1 ⟨rfl,h2,h3⟩
 have H2:=Lib.hid h2
 have H3:=Lib.hid h3
 clear h2 h3 HC c0 hc
 go_wp2
 go_ret2
 exact⟨rfl,H2.out,H3.out⟩
theorem cdrop_any(M:Mach S B t room disk TM)(c u:Nat)(root:Int)(v:Ct.Ver)(hv:v.Ok)(q r:Nat)(σ:Tp.Pst)(hfind:Tp.pFind disk σ (Ct.vkey v.id) 24 root= .ok (some (Ct.vval v)))(w:World)(h:On S B t u TM root 0 (q+48) σ w)(hc:Blk w c 186 #[.pointer (some ⟨u,0,none⟩)])(hcB:B<=c)
  (hS:∀W,On S B t u TM root 0 q σ W->Calls Tryz.prog 66 #[.pointer (some ⟨u,0,none⟩), .string ⟨#[72]⟩, .string ⟨#[73]⟩] W (ScEnd S B t u TM root r σ [] W)) {Q:World->Prop}
  (hD:∀W,On S B t u TM root 0 r σ W->Fr S w W->Calls Tryz.prog 67 #[.pointer (some ⟨u,0,none⟩), .string (Ct.vkey v.id)] W fun e w'=>∃b:Bool,e= .returned (.tuple #[.bool b, .int .i64 0])/\Q w'):
  Calls Tryz.prog 55 #[.pointer (some ⟨c,0,none⟩), .int .i64 v.id] w fun e w'=>e= .returned (.int .i64 0)/\Q w':=by
 have HKEY:=Lib.hid (fun W=>ckey_any v.id hv.lo hv.hi W)
 have HV:=Lib.hid (cver_some M c u root v hv q σ hfind w h hc)
 have HBR:=Lib.hid (fun W hW hcW=>cbranches_none c u root r σ W hcW (hS W hW))
 have HD:=Lib.hid hD
 have HM:=Lib.hid M
 have hfar:¬S c:=M.far hcB
 have lc:=hc.lt
 obtain⟨id,par,rt,edges⟩:=v
 simp only at HKEY HV HD
 simp only
 clear hfind hv hD hS M h
 generalize Ct.vkey id=SK at*
 go_enter Tryz.func55,Tryz.ntmps55
 go_wp2_with fail
 refine HV.out.mono ?_
 rintro e w1 ⟨rfl,hon,hf⟩
 have b2:Below w1.heap.size w1 (w1.alloc (.cells #[.int .i64 id, .int .i64 par, .int .i64 rt, .int .i64 edges] 99)):=(Below.refl _ w1).alloc (Nat.le_refl _) _
 have hon2:=hon.below HM.out b2
 have hc1:=hf.blk hc hfar
 have hc2:=hc1.below b2 hc1.lt
 have HF2:Hid (Fr S w (w1.alloc (.cells #[.int .i64 id, .int .i64 par, .int .i64 rt, .int .i64 edges] 99))):=Lib.hid (hf.trans (.of_below b2))
 clear hon b2 hc1 hf hc HV
 go_wp2_with fail
 refine(HBR.out _ hon2 hc2).mono ?_
 rintro e w3 ⟨rfl,hon3,hf3⟩
 have HC3:=Lib.hid (hf3.blk hc2 hfar)
 have HON:=Lib.hid hon3
 have HF3:=Lib.hid (HF2.out.trans hf3)
 clear hon2 hc2 HF2 hon3 hf3 HBR
 go_wp2
 go_loopw [32] (fun i wr=>i= .int .i64 0/\wr=w3) (fun _ _=>0)
 case atStart=>exact⟨rfl,rfl⟩
 case round=>
  obtain⟨rfl,rfl⟩:=hrel
  go_wp2_with fail
  refine(HKEY.out _).mono ?_
  rintro e w4 ⟨rfl,hb4⟩
  have HON4:=Lib.hid (HON.out.below HM.out hb4)
  have HF4:=Lib.hid (HF3.out.trans (.of_below hb4))
  have hc4:=HC3.out.below hb4 HC3.out.lt
  have c0:=hc4.cell 0
  clear HON HF3 HC3 hb4 hc4 HKEY
  go_wp2_with fail
  refine(HD.out _ HON4.out HF4.out).mono ?_
  rintro e w5 ⟨b,rfl,hq⟩
  have HQ:=Lib.hid hq
  clear hq HON4 HF4 HD c0
  go_wp2
  go_ret
  exact⟨rfl,HQ.out⟩
end
end Go.Proofs.YtjoiajmbfbjnnaaGreatDoor
namespace Go.Proofs.YtjoiajmbfbjnnaaGreatDoor
open Go.RowKit Go.Shelf Go.Maps
section
variable {F:FFile}{n B t m:Nat}{used:List Run}{disk:Tp.Disk}{root:Int}{σ:Tp.Pst}{r:Nat}{W w':World}{all rs:List Int}
def TkEnd(F:FFile)(B t m n:Nat)(used:List Run)(disk:Tp.Disk)(r:Nat)(σ:Tp.Pst)(all:List Int)(b:Nat)(S:Nat->Prop)(W:World)(e:Ending)(w':World):Prop:=
 ∃v,e= .returned (.tuple #[v, .int .i64 0])/\Own w' b v (Rp.norm (all.map runOf))/\TMd F B t m n used disk r σ w'/\Fr S W w'
theorem tmd_marks(h:TMd F B t m n used disk (r+2*all.length) σ W)(hd:F.d<B)(hall:AllOf (σ.view disk) rs all)(hpos:∀x∈all,0<x)(hl:all.length<=50000/\rs.length<=50000)(A:Option Addr)(c:Nat)(hls:LS intE W W.heap.size A rs):
  Calls Tryz.prog 33 #[.pointer (some ⟨t,0,none⟩), .slice A rs.length c] W (TkEnd F B t m n used disk r σ all W.heap.size (fun k=>k=F.d) W):=by
 have hdt:F.d≠t:=by have:=(h.sep F.d (.inr (.inl rfl))).1;omega
 have M:=mrd_disk F (B:=B) (t:=t) (m:=m) h.low.1 hd hdt n W.heap.size h.low.2.2 used disk
 have hC:Closed (σ.view disk) (fun _=>False) all:=by
  refine⟨fun x hx=> ?_,fun x hx=> .inl ?_⟩<;>obtain⟨root,es,tok,ids,q1,q2,q3,q4⟩:=hall.inn x hx
  ·obtain⟨y,hy⟩:=q2.some_ x q3
   exact(h.ht_ hy).2
  ·rcases q2 with⟨_,_,rfl⟩ | ⟨hh,s,a,rfl,b,d,ht,_⟩
   ·exact absurd q3 List.not_mem_nil
   ·obtain⟨y,y1,y2⟩:=Mk.tr_kids ht x q3
    exact⟨y,y1,fun k hk=> .inr (q4 k (y2 k hk)),(fits_nb (h.ht_ y1).1).i⟩
 refine(mtrees_any (bad:=fun _=>False) M (by intro r σ w id _ hb;exact hb.elim) all rs hC hall.root hl.1 hl.2 A c hls h.tmr (Nat.le_refl _)).mono ?_
 rintro e w' ⟨hf,⟨v,met,out,rfl,hown,hinv,hgood,htm'⟩ | ⟨_,⟨x,_,_,hb⟩,_⟩⟩
 ·have hmo:∀x,x∈met ↔ x∈out:=fun x=>by rw[hinv.mem];simp
  have hoa:∀x,x∈out ↔ x∈all:=fun x=>⟨fun ho=>hinv.inn x ((hmo x).2 ho),fun ha=>by
   obtain⟨root,es,tok,ids,q1,q2,q3,q4⟩:=hall.inn x ha
   exact hinv.done q1 q2 (fun i hi=>hpos i (q4 i hi)) x q3⟩
  rw[norm_runs hoa]at hown
  exact⟨v,rfl,hown,htm'.tm.less (by omega),hf⟩
 ·exact hb.elim
theorem mvers_any(vs:List Ct.Ver)(hok:∀v∈vs,v.Ok)(hlen:vs.length<=10000)(q:Nat)(h:TMd F B t m n used disk q σ W)(hd:F.d<B)
  (hS:∀u W',On (SD F t m) B t u (TMd F B t m n used disk) root 0 q σ W'->Calls Tryz.prog 66 #[.pointer (some ⟨u,0,none⟩), .string ⟨#[86]⟩, .string ⟨#[87]⟩] W' (ScEnd (SD F t m) B t u (TMd F B t m n used disk) root (r+2*all.length) σ (vs.map Ct.vent) W'))
  (hall:AllOf (σ.view disk) (root::vs.map (fun v=>(v.root:Int))) all) (hpos:∀x∈all,0<x) (hl:all.length<=50000):
  Calls Tryz.prog 56 #[.pointer (some ⟨t,0,none⟩), .int .i64 root] W (TkEnd F B t m n used disk r σ all W.heap.size (SD F t m) W):=by
 have hM:=mach_disk F h.low.1 h.low.2.1 hd n used disk
 have HN:=Lib.hid (ctnew_any hM root q σ W h)
 have HS:=Lib.hid hS
 have HC:=Lib.hid (fun c u w hc hw=>cvers_any hM c u root vs hok (by omega) (r+2*all.length) σ w hc hw)
 have HT:=Lib.hid (fun(W:World) A c hT hls=>tmd_marks (F:=F) (B:=B) (t:=t) (m:=m) (n:=n) (used:=used) (disk:=disk) (r:=r) (σ:=σ) (W:=W) (all:=all) (rs:=root::vs.map (fun v=>(v.root:Int))) hT hd hall hpos ⟨hl,by simp;omega⟩ A c hls)
 have HM:=Lib.hid hM
 clear hS hM h hall hpos hok
 go_enter Tryz.func56,Tryz.ntmps56
 go_wp2_with fail
 refine HN.out.mono ?_
 rintro e w1 ⟨u,rfl,hon,hu,hb⟩
 have HB:=Lib.hid hb
 have hcat:=cnew_any u w1
 have b2:Below w1.heap.size w1 (w1.alloc (.cells #[.pointer (some ⟨u,0,none⟩)] 186)):=(Below.refl _ w1).alloc (Nat.le_refl _) _
 have hon2:=hon.below HM.out b2
 have hcb:=Blk.new w1 186 #[.pointer (some ⟨u,0,none⟩)]
 have HB2:=Lib.hid (hb.trans (b2.mono hb.size))
 clear hon hb HN b2
 go_wp2_with fail
 refine hcat.mono ?_
 rintro e w2 ⟨rfl,rfl⟩
 go_wp2_with fail
 refine(HC.out _ _ _ hcb (HS.out u _ hon2)).mono ?_
 rintro e w3 ⟨A,k,rfl,hl3,hon3,hf3⟩
 have HON:=Lib.hid hon3
 have HF:=Lib.hid ((Fr.of_below (S:=SD F t m) HB2.out).trans hf3)
 have hls:=hl3.ls
 clear hl3 hon3 hf3 hon2 hcb hcat HB2 HB HC HS
 have h0:=Blk.new w3 3 #[.int .i64 root]
 have hone:LO intE 3 (w3.alloc (.cells #[.int .i64 root] 3)) w3.heap.size (.slice (some ⟨w3.heap.size,0,none⟩) 1 1) [root]:=LO.one rfl rfl h0 (Nat.le_refl _)
 have b4:Below w3.heap.size w3 (w3.alloc (.cells #[.int .i64 root] 3)):=(Below.refl _ w3).alloc (Nat.le_refl _) _
 clear h0
 go_wp2
 go_loopw [8,26] (fun o i wr=>∃j:Nat,j<=vs.length/\i= .int .i64 j/\LO intE 3 wr w3.heap.size o (root::(vs.take j).map (fun v=>(v.root:Int)))/\Below w3.heap.size w3 wr) (fun _ i _=>vs.length-(intOf i).toNat)
 case atStart=>exact⟨0,Nat.zero_le _,rfl,hone,b4⟩
 case round=>
  clear hone b4
  obtain⟨j,hj,rfl,hown,hb⟩:=hrel
  obtain⟨A2,c2,rfl⟩:=hown.form
  have hll:(root::(vs.take j).map (fun v=>(v.root:Int))).length=j+1:=by simp;omega
  by_cases hlt:j<vs.length
  ·obtain⟨b,off,rfl,hbb,hcs⟩:=hls.at_ hlt
   have htk:vs.take (j+1)=vs.take j++ [vs[j]]:=List.take_succ_eq_append_getElem hlt
   have HTK:=Lib.hid htk
   generalize vs[j]=v at*
   obtain⟨id,par,rt,edges⟩:=v
   have k0:wr.cell? ⟨b,off+j*4,none⟩=some (.int .i64 id):=(hb.cell (p:=⟨b,off+j*4,none⟩) hbb).trans (hcs 0 (by decide))
   have k1:wr.cell? ⟨b,off+j*4+1,none⟩=some (.int .i64 par):=(hb.cell (p:=⟨b,off+j*4+1,none⟩) hbb).trans (hcs 1 (by decide))
   have k2:wr.cell? ⟨b,off+j*4+2,none⟩=some (.int .i64 rt):=(hb.cell (p:=⟨b,off+j*4+2,none⟩) hbb).trans (hcs 2 (by decide))
   have k3:wr.cell? ⟨b,off+j*4+3,none⟩=some (.int .i64 edges):=(hb.cell (p:=⟨b,off+j*4+3,none⟩) hbb).trans (hcs 3 (by decide))
   have b6:=hb.alloc hb.size (.cells #[.int .i64 id, .int .i64 par, .int .i64 rt, .int .i64 edges] 99)
   have o6:=hown.below (Below.alloc (Below.refl _ wr) (Nat.le_refl _) (.cells #[.int .i64 id, .int .i64 par, .int .i64 rt, .int .i64 edges] 99))
   have hbv:=Blk.new wr 99 #[.int .i64 id, .int .i64 par, .int .i64 rt, .int .i64 edges]
   have v2:=hbv.cell 2
   have hraw:=LO.raw o6 hll (show intE.size=1 from rfl)
   rw[hll]at hraw
   have hz6:=b6.size
   rw[hll]
   clear htk hown hbv o6 hcs
   go_wp2_with (at_builtin;refine wpList_app1 rfl _ _ 29 rfl eiInt Tryz.underlying29 rfl (by decide) rfl hraw rfl (by simp) rfl (by simp[Value.oneCell']) (by unfold maxLen;omega) (by omega) hz6 ?_;intro v' w7 hown' hgrow hbel _ _)
   have hsn:=LO.snoc (E:=intE) (x:=(rt:Int)) (l:=root::(vs.take j).map (fun v=>(v.root:Int))) (n:=j+1) (by simp;omega) rfl rfl hown'
   have hsn2:LO intE 3 w7 w3.heap.size v' (root::(vs.take (j+1)).map (fun v=>(v.root:Int))):=by
    rw[HTK.out,List.map_append]
    exact hsn
   exact⟨⟨j+1,hlt,by go_num,hsn2,b6.trans hbel⟩,by simp[intOf];omega⟩
  ·have hjl:j=vs.length:=by omega
   subst hjl
   rw[List.take_length]at hown ⊢
   have hT:=HT.out wr A2 c2 (HM.out.below HON.out.tm hb) hown.ls
   rw[List.length_cons,List.length_map]at hT
   have HTT:=Lib.hid hT
   have HBB:=Lib.hid hb
   rw[List.length_cons,List.length_map]
   clear hT hown hb
   go_wp2_with fail
   refine HTT.out.mono ?_
   rintro e w8 ⟨v,rfl,hv,ht,hf⟩
   have HV:=Lib.hid (Own.lower hv (Nat.le_trans HF.out.size HBB.out.size))
   have HTM:=Lib.hid ht
   have HFF:Hid (Fr (SD F t m) W w8):=Lib.hid ((HF.out.trans (.of_below HBB.out)).trans (hf.more fun k hk=> .inr (.inr hk)))
   clear hv ht hf HTT
   go_wp2
   go_ret2
   exact⟨_,rfl,HV.out,HTM.out,HFF.out⟩
end
end Go.Proofs.YtjoiajmbfbjnnaaGreatDoor
namespace Go.Proofs.YtjoiajmbfbjnnaaGreatDoor
open Go.RowKit Go.Shelf
namespace Ct
theorem be_inj{a b:Nat}(ha:a<4294967296)(hb:b<4294967296)(h:Cp.be 4 a=Cp.be 4 b):a=b:=by
 have h1:=Cp.num_be_lt (k:=4) (n:=a) (by omega)
 have h2:=Cp.num_be_lt (k:=4) (n:=b) (by omega)
 rw[<-h1, <-h2,h]
theorem vkey_list(i:Nat):(vkey i).toList=86::Cp.be 4 i:=by
 rw[Go.Lib.toList_data]
 rfl
theorem vkey_inj{a b:Nat}(ha:a<4294967296)(hb:b<4294967296)(h:vkey a=vkey b):a=b:=by
 have h1:=congrArg ByteArray.toList h
 rw[vkey_list,vkey_list]at h1
 injection h1 with _ h1
 exact be_inj ha hb h1
theorem Ver.Ok.lt{v:Ver}(h:v.Ok):v.id<4294967296:=by have:=h.hi;omega
theorem may_ent(v:Ver):En.may (vkey v.id) (vval v)=true:=by
 have h1:(vkey v.id).size=5:=by
  show(86::Cp.be 4 v.id).toArray.size=5
  simp[Cp.be_length]
 have h2:(vval v).size=12:=by
  show(Cp.be 4 v.par++(Cp.be 4 v.root++Cp.be 4 v.edges)).toArray.size=12
  simp[Cp.be_length]
 unfold En.may
 rw[h1,h2]
 decide
theorem ins_vers(v:Ver):∀vs:List Ver,∃vs':List Ver,En.ins (vent v) (vs.map vent)=vs'.map vent/\(∀x,x∈vs' ↔ x=v\/x∈vs)/\vs'.length=vs.length+1
 | []=>⟨[v],rfl,fun x=>by simp,rfl⟩
 |y::l=>by
  rw[List.map_cons,En.ins]
  split
  ·exact⟨v::y::l,rfl,fun x=>by simp,rfl⟩
  ·obtain⟨vs',h1,h2,h3⟩:=ins_vers v l
   exact⟨y::vs',by rw[h1];rfl,fun x=>by rw[List.mem_cons,h2,List.mem_cons];exact⟨fun h=>by rcases h with h | h | h;exact .inr (.inl h);exact .inl h;exact .inr (.inr h),fun h=>by rcases h with h | h | h;exact .inr (.inl h);exact .inl h;exact .inr (.inr h)⟩,by simp[h3]⟩
theorem del_vers{i:Nat}(hi:i<4294967296):∀vs:List Ver,(∀x∈vs,x.Ok)->En.del (vs.map vent) (vkey i)=(vs.filter fun x=>x.id != i).map vent
 | [],_=>rfl
 |y::l,h=>by
  have ih:=del_vers hi l fun x hx=>h x (List.mem_cons_of_mem _ hx)
  unfold En.del at ih ⊢
  rw[List.map_cons]
  by_cases he:y.id=i
  ·rw[List.filter_cons_of_neg (by rw[<-he];simp[vent,En.eqs_self]),List.filter_cons_of_neg (by simp[he]),ih]
  ·rw[List.filter_cons_of_pos (by
    rw[Bool.not_eq_true',En.eqs_false]
    exact fun e=>he (vkey_inj (h y List.mem_cons_self).lt hi e)),List.filter_cons_of_pos (by simpa using he),ih]
   rfl
theorem put_vers{v:Ver}(hv:v.Ok)(vs:List Ver)(h:∀x∈vs,x.Ok)(hn:∀x∈vs,x.id≠v.id):∃vs':List Ver,En.put (vs.map vent) (vkey v.id) (vval v)=vs'.map vent/\(∀x,x∈vs' ↔ x=v\/x∈vs)/\vs'.length=vs.length+1:=by
 have hd:=del_vers hv.lt vs h
 rw[List.filter_eq_self.2 (fun x hx=>by simpa using hn x hx)]at hd
 unfold En.put
 rw[hd]
 exact ins_vers v vs
theorem get_vers{v:Ver}(hv:v.Ok):∀vs:List Ver,(∀x∈vs,x.Ok)->(∀x∈vs,x.id=v.id->x=v)->v∈vs->En.get (vs.map vent) (vkey v.id)=some (vval v)
 | [],_,_,h=>absurd h List.not_mem_nil
 |y::l,h1,h2,h3=>by
  by_cases he:y.id=v.id
  ·have:=h2 y List.mem_cons_self he
   subst this
   unfold En.get
   rw[List.map_cons,List.find?_cons_of_pos (by exact En.eqs_self _)]
   rfl
  ·have hl:v∈l:=by
    rcases List.mem_cons.1 h3 with rfl | h3
    ·exact absurd rfl he
    ·exact h3
   have ih:=get_vers hv l (fun x hx=>h1 x (List.mem_cons_of_mem _ hx)) (fun x hx=>h2 x (List.mem_cons_of_mem _ hx)) hl
   unfold En.get at ih ⊢
   rw[List.map_cons,List.find?_cons_of_neg (by
    rw[Bool.not_eq_true,En.eqs_false]
    exact fun e=>he (vkey_inj (h1 y List.mem_cons_self).lt hv.lt e))]
   exact ih
theorem scan_vers(vs:List Ver):Tp.scanF (vs.map vent) ⟨#[86]⟩ ⟨#[87]⟩=vs.map vent:=by
 unfold Tp.scanF
 refine List.filter_eq_self.2 fun x hx=> ?_
 obtain⟨v,_,rfl⟩:=List.mem_map.1 hx
 have h1:Tp.inB ⟨#[87]⟩ (vent v)=true:=by
  unfold Tp.inB En.lt vent
  rw[vkey_list,Go.Lib.toList_data]
  show(_||Go.Op.bytesLess (86::Cp.be 4 v.id) [87])=true
  simp[Go.Op.bytesLess]
 have h2:Tp.ge_ ⟨#[86]⟩ (vent v)=true:=by
  unfold Tp.ge_ En.lt vent
  rw[vkey_list,Go.Lib.toList_data]
  show(!Go.Op.bytesLess (86::Cp.be 4 v.id) [86])=true
  cases hb:Cp.be 4 v.id<;>simp[Go.Op.bytesLess]
 rw[h1,h2]
 rfl
theorem scan_heads(vs:List Ver):Tp.scanF (vs.map vent) ⟨#[72]⟩ ⟨#[73]⟩= []:=by
 unfold Tp.scanF
 refine List.filter_eq_nil_iff.2 fun x hx=> ?_
 obtain⟨v,_,rfl⟩:=List.mem_map.1 hx
 have h1:Tp.inB ⟨#[73]⟩ (vent v)=false:=by
  unfold Tp.inB En.lt vent
  rw[vkey_list,Go.Lib.toList_data]
  show(_||Go.Op.bytesLess (86::Cp.be 4 v.id) [73])=false
  simp[Go.Op.bytesLess]
 rw[h1]
 simp
end Ct
end Go.Proofs.YtjoiajmbfbjnnaaGreatDoor
namespace Go.Proofs.YtjoiajmbfbjnnaaGreatDoor
open Go.RowKit Go.Shelf Go.Maps
structure TMo(F:FFile)(B t m n K:Nat)(fl:List Run)(P:Int)(disk:Tp.Disk)(r:Nat)(σ:Tp.Pst)(w:World):Prop where
 eq:σ=Tp.start fl P
 pg:2<=P/\P<=max (n:Int) 2
 few:(Tp.start fl P).free.length<=80000
 low:t<B/\m<B/\B<=w.heap.size
 sep:∀g,F.Blks g->g<B/\g≠t/\g≠m
 base:0<F.B/\F.B<=B
 ht:HT w
 txn:∃k D,Txn w t m F.f n (Tp.start fl P).free P k D/\∀id,Maps.has D (.int .i64 id)=false
 on:OnDisk F n (Rp.minus [(2,P-1)] fl) disk
 file:∃R:Int,0<=R/\R+(r:Nat)<=900000000000/\F.At w R
 free:∃v,w.cell? ⟨t,1,none⟩=some v/\∀g,v.ownBlock=some g->g<K
section
variable {F:FFile}{B t m n K r r':Nat}{fl:List Run}{P:Int}{disk:Tp.Disk}{σ:Tp.Pst}{w w':World}{S':Nat->Prop}
theorem TMd.tmo(h:TMd F B t m n (Rp.minus [(2,P-1)] fl) disk r (Tp.start fl P) w):TMo F B t m n w.heap.size fl P disk r (Tp.start fl P) w:=by
 obtain⟨v,hv⟩:=h.tmr.free
 obtain⟨D,h4,h5,_⟩:=h.mem.txn
 have hp:=h.mem.ap.pg
 have hs:=ap_small h.mem.ap
 exact⟨rfl,⟨hp.1,hp.2.1⟩,hs.1,h.low,fun g hg=>by have:=h.sep g hg;have:=h.low;omega,⟨h.base.1,by have:=h.base;have:=h.low;omega⟩,h.ht,⟨_,D,h4,fun id=>by rw[h5.has];exact decide_eq_false List.not_mem_nil⟩,h.on,h.file,v,hv⟩
def BadO(F:FFile)(fl:List Run)(P x:Int):Prop:=PageIs F.D x none/\(2<=x/\x<P)/\Rp.has (Tp.start fl P).free x=false
end
structure MkF(w0:World)(f0 d0 n N j r t:Nat)(disk:Tp.Disk)(fl:List Run)(P:Int)(bad:Int->Prop)(W:World):Prop where
 ex:∃ (F:FFile) (B m K:Nat),F.f=f0/\F.d=d0/\F.k+j<maxLen/\FOn F n disk N/\TMo F B t m n K fl P disk r (Tp.start fl P) W/\(B<=K/\K<=W.heap.size)/\(w0.heap.size<=F.B/\m≠F.m)/\∀x,bad x->BadO F fl P x
 below:Below w0.heap.size w0 W
section
variable {w0 W W':World}{f0 d0 n N r r' t u D T K k b0 R0:Nat}{disk:Tp.Disk}{fl:List Run}{P root:Int}{es:List Ent}{tok:Nat}{ids:List Int}
structure BegF(w0:World)(f0 d0 n N r t:Nat)(disk:Tp.Disk)(fl:List Run)(P:Int)(W:World):Prop where
 ex:∃ (F:FFile) (B m:Nat),F.f=f0/\F.d=d0/\F.k+1000<maxLen/\FOn F n disk N/\TMd F B t m n (Rp.minus [(2,P-1)] fl) disk r (Tp.start fl P) W/\F.d<B/\w0.heap.size<=m/\w0.heap.size<=F.B
 tl:w0.heap.size<=t
 low:LowD disk fl P
 p:2<=P/\P<=n
 below:Below w0.heap.size w0 W
theorem Beg.toF(h:Beg w0 f0 d0 n N r t disk P W):BegF w0 f0 d0 n N r t disk [] P W:=⟨h.ex,h.tl,h.low,h.p,h.below⟩
theorem BegF.less(h:BegF w0 f0 d0 n N r t disk fl P W)(hr:r'<=r):BegF w0 f0 d0 n N r' t disk fl P W:=by
 obtain⟨⟨F,B,m,e1,e2,e3,e4,e5,e6⟩,h1,h2,h3,h4⟩:=h
 exact⟨⟨F,B,m,e1,e2,e3,e4,e5.less hr,e6⟩,h1,h2,h3,h4⟩
theorem BegF.mk_(h:BegF w0 f0 d0 n N r t disk fl P W):MkF w0 f0 d0 n N 1000 r t disk fl P (fun _=>False) W:=by
 obtain⟨⟨F,B,m,e1,e2,e3,e4,e5,e6,e7,e8⟩,h1,h2,h3,h4⟩:=h
 have hm:m≠F.m:=by have:=(e5.sep F.m (.inr (.inr (.inr (.inl rfl))))).2;omega
 exact⟨⟨F,B,m,_,e1,e2,e3,e4,e5.tmo,⟨e5.low.2.2,Nat.le_refl _⟩,⟨e8,hm⟩,fun x hx=>hx.elim⟩,h4⟩
structure GngF(w0:World)(f0 d0 n N t u:Nat)(disk:Tp.Disk)(fl:List Run)(P:Int)(D T K k b0 R0:Nat)(es:List Ent)(W:World):Prop where
 ex:∃ (F:FFile) (a:TAd),F.f=f0/\F.d=d0/\F.k+1000<maxLen/\w0.heap.size<=F.B/\FOn F n disk N/\a.t=t/\a.u=u/\InG w0 F n a (Rp.minus [(2,P-1)] fl) disk P D T K k b0 R0 es W
 low:LowD disk fl P
 p:2<=P/\P+D<=n
theorem GngF.below(h:GngF w0 f0 d0 n N t u disk fl P D T K k b0 R0 es W):Below w0.heap.size w0 W:=by
 obtain⟨⟨F,a,_,_,_,_,_,_,_,h1⟩,_⟩:=h
 exact h1.below
theorem GngF.hb(h:GngF w0 f0 d0 n N t u disk fl P D T K k b0 R0 es W):b0<=W.heap.size:=by
 obtain⟨⟨F,a,_,_,_,_,_,_,_,h1⟩,_⟩:=h
 exact h1.hb
theorem GngF.up(h:GngF w0 f0 d0 n N t u disk fl P D T K k b0 R0 es W)(hb:Below W.heap.size W W'):GngF w0 f0 d0 n N t u disk fl P D T K k b0 R0 es W':=by
 obtain⟨⟨F,a,e1,e2,e3,e4,e5,e6,e7,h1⟩,h2,h3⟩:=h
 exact⟨⟨F,a,e1,e2,e3,e4,e5,e6,e7,h1.up hb⟩,h2,h3⟩
theorem GngF.skip(h:GngF w0 f0 d0 n N t u disk fl P D T K k b0 R0 es W):GngF w0 f0 d0 n N t u disk fl P D T K (k+1) b0 R0 es W:=by
 obtain⟨⟨F,a,e1,e2,e3,e4,e5,e6,e7,h1⟩,h2,h3⟩:=h
 exact⟨⟨F,a,e1,e2,e3,e4,e5,e6,e7,h1.skip⟩,h2,h3⟩
theorem begF_tree(D T K:Nat)(h:BegF w0 f0 d0 n N (288*K+R0) t disk fl P W)(hn:n<=16384)(hv:Tp.VerAt disk root es tok ids)(htl:tok<=T)(hTK:T+K<=1000)(hPD:P+D<=n):
  Calls Tryz.prog 19 #[.pointer (some ⟨t,0,none⟩), .int .i64 root] W fun e w'=>∃u,e= .returned (.pointer (some ⟨u,0,none⟩))/\GngF w0 f0 d0 n N t u disk fl P D T K 0 w'.heap.size R0 es w'/\Below W.heap.size W w'/\W.heap.size<=u:=by
 obtain⟨⟨F,B,m,e1,e2,e3,e4,e5,e6,e7,e8⟩,h1,h2,h3,h4⟩:=h
 have hdB:F.B<=F.d:=by
  obtain⟨R,_,_,hA⟩:=e5.file
  exact hA.disk.le.1
 refine(fst_new (root:=root) e5 e6 hv (by omega) (fun x y h=>by obtain⟨cc,c1,c2⟩:=e4.c;exact(c2 x y h).2.1) hn h2).mono ?_
 rintro e w5 ⟨a,rfl,q1,q2,hst5,hu5,b5⟩
 refine⟨a.u,rfl,⟨⟨F,a,e1,e2,e3,e8,e4,q1,rfl,InG.start (hst5.less (by omega)) (by omega) (Int.le_refl _) (fun x hx=> ?_) (h4.trans (b5.mono h4.size))⟩,h2,h3.1,hPD⟩,b5,hu5⟩
 rcases hx with(rfl | rfl | rfl) | rfl
 ·rw[q1];exact h1
 ·rw[q2];exact e7
 ·omega
 ·exact Nat.le_trans h4.size hu5
theorem gngF_put(h:GngF w0 f0 d0 n N t u disk fl P D T K k b0 R0 es W)(hk:k<K)(hT:T+K<=1000)(hD:6*(T+K)+90<=5*D){s v:ByteArray}(hm:En.may s v=true):
  Calls Tryz.prog 27 #[.pointer (some ⟨u,0,none⟩), .string s, .string v] W fun e W'=>e= .returned (.int .i64 0)/\GngF w0 f0 d0 n N t u disk fl P D T K (k+1) b0 R0 (En.put es s v) W'/\KeepL W W':=by
 obtain⟨⟨F,a,e1,e2,e3,e4,e5,e6,rfl,h1⟩,h2,h3⟩:=h
 refine(ing_put h1 hk hT hD (nums_minus h3.1 fl) h3.2 hm).mono ?_
 rintro e W' ⟨rfl,g1,g2,g3⟩
 exact⟨rfl,⟨⟨F,a,e1,e2,e3,e4,e5,e6,rfl,g1⟩,h2,h3⟩,g3⟩
theorem gngF_del(h:GngF w0 f0 d0 n N t u disk fl P D T K k b0 R0 es W)(hk:k<K)(hT:T+K<=1000)(hD:6*(T+K)+90<=5*D)(s:ByteArray):
  Calls Tryz.prog 67 #[.pointer (some ⟨u,0,none⟩), .string s] W fun e W'=>∃b:Bool,e= .returned (.tuple #[.bool b, .int .i64 0])/\GngF w0 f0 d0 n N t u disk fl P D T K (k+1) b0 R0 (En.del es s) W'/\KeepL W W':=by
 obtain⟨⟨F,a,e1,e2,e3,e4,e5,e6,rfl,h1⟩,h2,h3⟩:=h
 refine(ing_del h1 hk hT hD (nums_minus h3.1 fl) h3.2 s).mono ?_
 rintro e W' ⟨b,rfl,g1,g2,g3⟩
 exact⟨b,rfl,⟨⟨F,a,e1,e2,e3,e4,e5,e6,rfl,g1⟩,h2,h3⟩,g3⟩
structure DonF(w0:World)(f0 d0 n N r t:Nat)(disk:Tp.Disk)(fl:List Run)(P:Int)(W:World):Prop where
 ex:∃ (F:FFile) (m k:Nat) (D:DataW Value),F.f=f0/\F.d=d0/\F.k+1000<maxLen/\FReady F n disk N r W/\w0.heap.size<=F.B/\Txn W t m F.f n fl P k D/\m≠F.m
 low:LowD disk fl P
 p:2<=P/\P<=n
 few:fl.length<=50000
 below:Below w0.heap.size w0 W
theorem DonF.below_(h:DonF w0 f0 d0 n N r t disk fl P W)(hb:Below W.heap.size W W'):DonF w0 f0 d0 n N r t disk fl P W':=by
 obtain⟨⟨F,m,k,D,e1,e2,e3,e4,e5,e6,e7⟩,h1,h2,h3,h4⟩:=h
 exact⟨⟨F,m,k,D,e1,e2,e3,e4.below hb,e5,e6.below hb,e7⟩,h1,h2,h3,h4.trans (hb.mono h4.size)⟩
theorem DonF.row{b:Nat}{v:Value}{l:List Int}(h:DonF w0 f0 d0 n N r t disk fl P W)(ho:LO intE 3 W b v l)(hb:w0.heap.size<=b)(h0:0<w0.heap.size)(hg:W.grownBy W' v.ownBlock):DonF w0 f0 d0 n N r t disk fl P W':=by
 obtain⟨⟨F,m,k,D,e1,e2,e3,e4,e5,e6,e7⟩,h1,h2,h3,h4⟩:=h
 refine⟨⟨F,m,k,D,e1,e2,e3,e4.fr (Fr.of_grown hg) (fun g hgB hS=> ?_) (fun hS=> ?_),e5,e6.fr (Fr.of_grown hg) (fun g a o hk=> ?_),e7⟩,h1,h2,h3,h4.trans ((Below.refl _ W).grown hg h4.size (fun k e=>Nat.le_trans hb (World.ownsRow.lt ho k e).1))⟩
 ·obtain⟨cs,hB⟩:=own_obj ho hS
  exact e4.nblk hB (by decide) (by decide) (by decide) (by decide) hgB
 ·have:=(World.ownsRow.lt ho 0 hS).1
  omega
 ·obtain⟨cs,hcs⟩:=own_obj ho a
  have e:o= .cells cs 3:=by have:=hk.symm.trans hcs;injection this
  subst e
  exact⟨fun cs' e=>by injection e with _ e;revert e;decide,fun cs' e=>by injection e with _ e;revert e;decide,fun cs' e=>by injection e with _ e;revert e;decide,fun cs' e=>by injection e with _ e;revert e;decide,fun _ _ e=>by cases e⟩
theorem donF_free(h:DonF w0 f0 d0 n N r t disk fl P W):Calls Tryz.prog 38 #[.pointer (some ⟨t,0,none⟩)] W (RunsEnd fl W):=by
 obtain⟨⟨F,m,k,D,e1,e2,e3,e4,e5,e6,e7⟩,h1,h2,h3,h4⟩:=h
 exact tfree_any t m F.f n k fl P D W e6 (by omega)
theorem donF_pages(h:DonF w0 f0 d0 n N r t disk fl P W):Calls Tryz.prog 30 #[.pointer (some ⟨t,0,none⟩)] W fun e w'=>e= .returned (.int .i64 P)/\w'=W:=by
 obtain⟨⟨F,m,k,D,e1,e2,e3,e4,e5,e6,e7⟩,h1,h2,h3,h4⟩:=h
 exact tpages_any t m F.f n k fl P D W e6
theorem donF_new(h:DonF w0 f0 d0 n N r t disk fl P W)(hN:N<1000000)(A:Option Addr)(c:Nat)(hr:RS W W.heap.size A fl):
  Calls Tryz.prog 20 #[.pointer (some ⟨f0,0,none⟩), .slice A fl.length c, .int .i64 P] W fun e w'=>∃t',e= .returned (.pointer (some ⟨t',0,none⟩))/\BegF w0 f0 d0 n N r t' disk fl P w'/\Below W.heap.size W w':=by
 obtain⟨⟨F,m,k,D,rfl,rfl,e3,e4,e5,e6,_⟩,h1,h2,h3,h4⟩:=h
 refine(fr_begin e4 hN A c fl P P (by unfold pagesN;omega) hr h3 h1).mono ?_
 rintro e w' ⟨t',m',rfl,hM,⟨q1,q2,q3⟩,b⟩
 exact⟨t',rfl,⟨⟨F,_,m',rfl,rfl,e3,e4.on,hM,q3,Nat.le_trans h4.size q2,e5⟩,Nat.le_trans h4.size q1,h1,h2,h4.trans (b.mono h4.size)⟩,b⟩
def GfF(w0:World)(f0 d0 n N t u:Nat)(disk:Tp.Disk)(P:Int)(D T K R0:Nat)(es:List Ent)(W:World)(e:Ending)(w':World):Prop:=
 e= .returned (.int .i64 0)/\∃ (disk':Tp.Disk) (root P':Int) (fl':List Run) (tok:Nat) (ids:List Int),DonF w0 f0 d0 n (N+600) R0 t disk' fl' P' w'/\tok<=T+K/\P'<=P+D/\Tp.VerAt disk' root es tok ids/\
  (∀ (root':Int) (es':List Ent) (tok':Nat) (ids':List Int),Tp.VerAt disk root' es' tok' ids'->Tp.VerAt disk' root' es' tok' ids')/\KeepL W w'/\
  Calls Tryz.prog 29 #[.pointer (some ⟨u,0,none⟩)] w' fun e w''=>e= .returned (.int .i64 root)/\w''=w'
theorem gngF_flush(h:GngF w0 f0 d0 n N t u disk fl P D T K k b0 R0 es W)(hk:k<=K)(hN:N+2000<90000)(hT:T+K<=480):
  Calls Tryz.prog 28 #[.pointer (some ⟨t,0,none⟩)] W (GfF w0 f0 d0 n N t u disk P D T K R0 es W):=by
 obtain⟨⟨F,a,e1,e2,e3,e4,e5,rfl,rfl,h1⟩,hl,h3⟩:=h
 obtain⟨root,σ,ids,tok,hst,htk,hpg⟩:=h1.at_
 have hb:=h1.below
 have m2:=hst.rt.few
 have m3:=hst.mineLen
 have hpp:=hst.ap.pg
 refine(fst_flush2 (N:=N) (hst.less (r':=R0) (by omega)) e5 hN e3 (by omega)).mono ?_
 rintro e w' ⟨rfl,F',disk',hfl⟩
 obtain⟨f1,f2,f3,f4⟩:=hfl.same
 have hsz:F'.D.sure.length=n:=by obtain⟨cc,c1,c2⟩:=hfl.ready.on.c;exact c1.ok.size
 obtain⟨R,_,_,hA⟩:=hfl.ready.file
 obtain⟨m,k',D',hx,hxm⟩:=hfl.tx.txn2 hA hsz
 refine⟨rfl,disk',root,σ.pages,σ.free,tok,ids,⟨⟨F',m,k',D',by rw[f2,e1],by rw[f3,e2],by rw[f4];decide,⟨?_,hfl.ready.file,hfl.ready.ht,hfl.ready.b0,hfl.ready.bw⟩,by rw[f1];exact e4,hx,hxm⟩,hfl.low,⟨hpp.1,by omega⟩,hfl.fl,hb.trans (hfl.below.mono e4)⟩,by omega,hpg,hfl.ver,hfl.old,hfl.keepL,troot_any a.u root 0 w' hfl.self⟩
 obtain⟨q1,q2,q3,q4⟩:=hfl.ready.on
 exact⟨q1,q2,⟨q3.1,by omega⟩,by omega⟩
end
section
variable {w0 W W':World}{f0 d0 n N j r r' t:Nat}{disk:Tp.Disk}{fl:List Run}{P i:Int}{bad:Int->Prop}{rs all:List Int}
def VersOf(disk:Tp.Disk)(rs:List Int):Prop:=∀x∈rs,∃es tok ids,Tp.VerAt disk x es tok ids/\tok<=480
def PgOf(disk:Tp.Disk)(rs:List Int)(g:Int->List Int):Prop:=∀x∈rs,(∃es tok,Tp.VerAt disk x es tok (g x))/\(g x).length<=600
theorem VersOf.g{disk:Tp.Disk}{rs:List Int}(h:VersOf disk rs):∃g,PgOf disk rs g:=by
 have h1:∀x,∃ids,x∈rs->(∃es tok,Tp.VerAt disk x es tok ids)/\ids.length<=600:=fun x=>by
  by_cases hx:x∈rs
  ·obtain⟨es,tok,ids,q1,q2⟩:=h x hx
   have:=(ver_few q1).1
   exact⟨ids,fun _=>⟨⟨es,tok,q1⟩,by omega⟩⟩
  ·exact⟨[],fun h=>absurd h hx⟩
 exact⟨fun x=>Classical.choose (h1 x),fun x hx=>Classical.choose_spec (h1 x) hx⟩
theorem PgOf.all_{disk:Tp.Disk}{rs l:List Int}{g:Int->List Int}(h:PgOf disk rs g)(hs:∀x∈l,x∈rs):AllOf disk l (l.flatMap g)/\(l.flatMap g).length<=600*l.length:=by
 refine⟨⟨fun x hx=> ?_,fun x hx=> ?_⟩, ?_⟩
 ·obtain⟨r,hr,hx⟩:=List.mem_flatMap.1 hx
  obtain⟨⟨es,tok,q⟩,_⟩:=h r (hs r hr)
  exact⟨r,es,tok,g r,hr,q,hx,fun y hy=>List.mem_flatMap.2 ⟨r,hr,hy⟩⟩
 ·obtain⟨⟨es,tok,q⟩,_⟩:=h x (hs x hx)
  rcases q with⟨a,_,_⟩ | ⟨hh,s,a,b,c,d,ht,f⟩
  ·exact .inl a
  ·refine .inr (List.mem_flatMap.2 ⟨x,hx, ?_⟩)
   rw[<-b, <-a]
   exact Tp.tr_id ht
 ·induction l with
  |nil=>simp
  |cons x l ih=>
   have h1:=ih fun y hy=>hs y (List.mem_cons_of_mem _ hy)
   have h2:=(h x (hs x List.mem_cons_self)).2
   rw[List.flatMap_cons,List.length_append,List.length_cons]
   omega
theorem MkF.view(h:MkF w0 f0 d0 n N j r t disk fl P bad W){x:Int}{y:Nd.Node}(hx:disk x=some y):(Tp.start fl P).view disk x=some y/\(2<=x/\x<P/\x<=16384)/\Rp.has (Tp.start fl P).free x=false/\Nd.fits y=true:=by
 obtain⟨⟨F,B,m,K,e1,e2,e3,e4,e5,e6,e7,e8⟩,h1⟩:=h
 obtain⟨q1,q2,q3⟩:=e5.on.page _ _ hx
 obtain⟨a1,a2,a3,a4⟩:=((Rp.minus_ok [(2,P-1)] fl).2 x).1 q2
 have h2:=Rp.mem_two.1 a3
 have hp:=e5.pg
 have hn:=e5.on.n
 have hv:=Tp.start_view (disk:=disk) (l:=fl) h2.1 h2.2 a4
 refine⟨hv.trans hx,⟨h2.1,h2.2,by omega⟩,Rp.has_used fun hm=>a4 (((Rp.meet_ok fl [(2,P-1)]).2 x).1 hm).2.2.1,q1⟩
end
end Go.Proofs.YtjoiajmbfbjnnaaGreatDoor
namespace Go.Proofs.YtjoiajmbfbjnnaaGreatDoor
open Go.RowKit Go.ChangeShapes Go.WideShapes Go.Deep
section
variable {H:Type}{enc:TypeId × Value->H}{P:Program}{w:World}{base:Nat}{spare:Nat->Bool}{held:Bool}
theorem open_slice_fields{t e:TypeId}{fs:Array Field}{fuel:Nat}{cs:List Value}{x:DataW H × List MemPlace}(ht:P.underlying t=some (.slice e))(he:P.underlying e=some (.struct fs))
  (hone:oneCellFields P fs=true) (hC:P.cellsOf e=fs.size) (h:DataW.trod enc P w base spare held fuel t cs=some x):
  (cs= [.slice none 0 0]/\x=(.nil, []))\/
  ∃ (a:Addr) (len cap m:Nat) (D:Nat->DataW H) (Pl:Nat->List MemPlace),cs= [.slice (some a) len cap]/\base<=a.block/\len<=cap/\cap<=maxLen/\m=(if spare a.block then cap else len)/\
   x=(.slice ((List.range len).map D) ((List.range (m-len)).map fun j=>D (len+j)),MemPlace.row a (m*fs.size)++(List.range m).flatMap Pl)/\
   ∀i,i<m->∃ (ys:List (DataW H × List MemPlace)) (n:Nat),D i= .agg (ys.map (·.1))/\Pl i=ys.flatMap (·.2)/\ys.length=fs.size/\
    ∀ (j:Nat) (f:Field),fs[j]? =some f->∃ (v:Value) (y:DataW H × List MemPlace),w.cell? (a.add (i*fs.size+j))=some v/\ys[j]? =some y/\DataW.trod enc P w base spare held n f.type [v]=some y:=by
 rcases open_slice ht h with h0 | ⟨a,len,cap,m,n,D,Pl,hcs,hb,hl,hm,hmm,hx,hi⟩
 ·exact .inl h0
 ·refine .inr ⟨a,len,cap,m,D,Pl,hcs,hb,hl,hm,hmm,by rw[hC]at hx;exact hx,fun i him=> ?_⟩
  obtain⟨cs',hc,ht'⟩:=hi i him
  rw[hC]at hc
  obtain⟨ys,n',hn',hy,hlen,hyl,hf⟩:=DataW.trod_struct he ht'
  obtain⟨_,hcl,hat⟩:=World.cells?_some hc
  simp only[Prod.mk.injEq]at hy
  refine⟨ys,n',hy.1,hy.2,hyl,fun j f hj=> ?_⟩
  obtain⟨ho,hk⟩:=hone_of hone j f hj
  have hjl:j<fs.size:=(Array.getElem?_eq_some_iff.1 hj).1
  have hcell:=hat j hjl
  have hv:cs'[j]? =some (cs'[j]'(by omega)):=List.getElem?_eq_getElem (by omega)
  have h1:=hf j f hj
  rw[ho,hk]at h1
  have hone':(cs'.drop j).take 1= [cs'[j]'(by omega)]:=by
   rw[List.drop_eq_getElem_cons (by omega)]
   rfl
  rw[hone']at h1
  have hys:ys[j]? =some (ys[j]'(by omega)):=List.getElem?_eq_getElem (by omega)
  refine⟨_,_, ?_,hys,h1.trans hys⟩
  rw[<-Go.Deep.add_add,hcell,hv]
end
section
variable {H:Type}{enc:TypeId × Value->H}
theorem open_entsE{W:World}{A:Option Addr}{len cap:Nat}{d:DataW H}{p:List MemPlace}(h:DataW.Trod enc Tryz.prog W 0 (fun _=>true) true 28 (.slice A len cap) d p):
  ∃l:List Ent,l.length=len/\LS entE W W.heap.size A l:=by
 obtain⟨fuel,hf⟩:=h
 rcases open_slice_fields Tryz.underlying28 Tryz.underlying34 (by kernel_rfl) (by kernel_rfl) hf with⟨hcs,_⟩ | ⟨a,len',cap',m,D,Pl,hcs,_,hl,hm,hmm,hx,hi⟩
 ·simp[Value.cells]at hcs
  obtain⟨rfl,rfl,rfl⟩:=hcs
  exact⟨[],rfl,LS.nil_⟩
 ·simp[Value.cells]at hcs
  obtain⟨rfl,rfl,rfl⟩:=hcs
  simp only[if_true]at hmm
  subst hmm
  have key:∀i,∃r:Ent,i<len->(W.cell? (a.add (i*2))=some (.string r.1)/\W.cell? (a.add (i*2+1))=some (.string r.2)):=by
   intro i
   by_cases hil:i<len
   ·obtain⟨ys,n,_,_,hys,hfld⟩:=hi i (by omega)
    obtain⟨v0,y0,hc0,_,t0⟩:=hfld 0 _ rfl
    obtain⟨v1,y1,hc1,_,t1⟩:=hfld 1 _ rfl
    obtain⟨x0,e0,_⟩:=DataW.trod_string Tryz.underlying9 t0
    obtain⟨x1,e1,_⟩:=DataW.trod_string Tryz.underlying9 t1
    simp at e0 e1
    subst e0 e1
    exact⟨⟨x0,x1⟩,fun _=>⟨hc0,hc1⟩⟩
   ·exact⟨⟨⟨#[]⟩,⟨#[]⟩⟩,fun h=>absurd h hil⟩
  obtain⟨f,hfs⟩:∃f:Nat->Ent,∀i,i<len->(W.cell? (a.add (i*2))=some (.string (f i).1)/\W.cell? (a.add (i*2+1))=some (.string (f i).2)):=⟨fun i=>Classical.choose (key i),fun i=>Classical.choose_spec (key i)⟩
  clear key
  refine⟨(List.range len).map f,by simp,⟨entE.cells_length _,fun hpos=>⟨a,rfl, ?_, ?_⟩⟩⟩
  ·have:=(hfs 0 (by simpa using hpos)).1
   have hb:=World.block_lt_of_cell? W _ this
   rwa [block_of_add]at hb
  ·intro j u hu
   have hjl:j<len*2:=by
    have:=(List.getElem?_eq_some_iff.1 hu).1
    rw[entE.cells_length]at this;simpa[entE]using this
   have h0:=entE.cells_at ((List.range len).map f) (j / 2) (by simp;omega) (j % 2) (by show j % 2<2;omega)
   have e:j / 2*entE.size+j % 2=j:=by show j / 2*2+j % 2=j;omega
   rw[e,hu]at h0
   simp only[List.getElem_map,List.getElem_range]at h0
   have hs:=hfs (j / 2) (by omega)
   have hm:j % 2=0\/j % 2=1:=by omega
   rcases hm with hm | hm
   ·rw[hm]at h0;injection h0 with h0;subst h0;rw[<-hs.1,show j / 2*2=j by omega]
   ·rw[hm]at h0;injection h0 with h0;subst h0;rw[<-hs.2,show j / 2*2+1=j by omega]
end
abbrev Sl:=Option Addr × Nat × Nat
def slE:Enc Sl:=⟨fun x=> [.slice x.1 x.2.1 x.2.2],1,fun _=>rfl,by decide,fun x u hu=>by simp at hu;subst hu;rfl⟩
theorem LS.sl{w:World}{B:Nat}{A:Option Addr}{l:List Sl}(h:LS slE w B A l){k:Nat}(hk:k<l.length):∃b off,A=some ⟨b,off,none⟩/\b<B/\w.cell? ⟨b,off+k,none⟩=some (.slice l[k].1 l[k].2.1 l[k].2.2):=by
 obtain⟨b,off,rfl,hb,hc⟩:=h.at_ hk
 have h0:=hc 0 (by decide)
 exact⟨b,off,rfl,hb,by simpa[slE]using h0⟩
section
variable {H:Type}{enc:TypeId × Value->H}
theorem open_entsS{W:World}{A:Option Addr}{len cap:Nat}{d:DataW H}{p:List MemPlace}(h:DataW.Trod enc Tryz.prog W 0 (fun _=>true) true 50 (.slice A len cap) d p):
  ∃ (l:List Sl) (f:List (List Ent)),l.length=len/\f.length=len/\LS slE W W.heap.size A l/\∀i (h1:i<l.length) (h2:i<f.length),f[i].length=l[i].2.1/\LS entE W W.heap.size l[i].1 f[i]:=by
 obtain⟨fuel,hf⟩:=h
 rcases DataW.trod_slice Tryz.underlying50 hf with⟨hcs,_⟩ | ⟨a,len',cap',elems,rest,n,_,hcs,_,hb,hl,hm,hlen,hel,hsp,hns⟩
 ·simp[Value.cells]at hcs
  obtain⟨rfl,rfl,rfl⟩:=hcs
  exact⟨[], [],rfl,rfl,LS.nil_,fun i h=>absurd h (by simp)⟩
 ·simp[Value.cells]at hcs
  obtain⟨rfl,rfl,rfl⟩:=hcs
  have c1:Tryz.prog.cellsOf 28=1:=by kernel_rfl
  have key:∀i,∃r:Sl × List Ent,i<len->W.cell? (a.add i)=some (.slice r.1.1 r.1.2.1 r.1.2.2)/\r.2.length=r.1.2.1/\LS entE W W.heap.size r.1.1 r.2:=by
   intro i
   by_cases hil:i<len
   ·have h1:=hel i hil
    rw[c1,Nat.mul_one,List.getElem?_eq_getElem (by omega),Option.bind_eq_some_iff]at h1
    obtain⟨cs',hcs,hy⟩:=h1
    have hy':=hy
    rcases DataW.trod_slice Tryz.underlying28 hy with⟨rfl,_⟩ | ⟨a',l',c',_,_,_,_,rfl,_⟩
    ·obtain⟨q,q1,q2⟩:=open_entsE (A:=none) (len:=0) (cap:=0) (d:=(elems[i]'(by omega)).1) (p:=(elems[i]'(by omega)).2) (enc:=enc) ⟨n,hy'⟩
     exact⟨((none,0,0),q),fun _=>⟨cell_of_cells?_one hcs,q1,q2⟩⟩
    ·obtain⟨q,q1,q2⟩:=open_entsE (A:=some a') (len:=l') (cap:=c') (d:=(elems[i]'(by omega)).1) (p:=(elems[i]'(by omega)).2) (enc:=enc) ⟨n,hy'⟩
     exact⟨((some a',l',c'),q),fun _=>⟨cell_of_cells?_one hcs,q1,q2⟩⟩
   ·exact⟨((none,0,0), []),fun h=>absurd h hil⟩
  obtain⟨g,hg⟩:∃g:Nat->Sl × List Ent,∀i,i<len->W.cell? (a.add i)=some (.slice (g i).1.1 (g i).1.2.1 (g i).1.2.2)/\(g i).2.length=(g i).1.2.1/\LS entE W W.heap.size (g i).1.1 (g i).2:=⟨fun i=>Classical.choose (key i),fun i=>Classical.choose_spec (key i)⟩
  clear key
  refine⟨(List.range len).map fun i=>(g i).1,(List.range len).map fun i=>(g i).2,by simp,by simp,⟨slE.cells_length _,fun hpos=>⟨a,rfl, ?_, ?_⟩⟩, ?_⟩
  ·have:=(hg 0 (by simpa using hpos)).1
   have hb:=World.block_lt_of_cell? W _ this
   rwa [block_of_add]at hb
  ·intro j u hu
   have hjl:j<len:=by
    have:=(List.getElem?_eq_some_iff.1 hu).1
    rw[slE.cells_length]at this;simpa[slE]using this
   have h0:=slE.cells_at ((List.range len).map fun i=>(g i).1) j (by simp;omega) 0 (by decide)
   have e:j*slE.size+0=j:=by show j*1+0=j;omega
   rw[e,hu]at h0
   simp only[List.getElem_map,List.getElem_range]at h0
   exact((hg j hjl).1).trans (show some (Value.slice (g j).1.1 (g j).1.2.1 (g j).1.2.2)=some u from h0.symm)
  ·intro i h1 h2
   simp only[List.getElem_map,List.getElem_range]
   exact(hg i (by simpa using h1)).2
end
end Go.Proofs.YtjoiajmbfbjnnaaGreatDoor
namespace Go.Proofs.YtjoiajmbfbjnnaaGreatDoor
open Go.RowKit Go.Shelf
def OvEnd(rl:List Sl)(w:World)(e:Ending)(w':World):Prop:=∃b:Bool,e= .returned (.bool b)/\w'=w/\(b=false->rl.length<=8/\∀i (h:i<rl.length),rl[i].2.1<=60)
theorem over21_any(A:Option Addr)(c:Nat)(rl:List Sl)(fl:List (List Ent))(w:World)(hr:LS slE w w.heap.size A rl)(hlen:fl.length=rl.length)(hx:∀i (h1:i<rl.length) (h2:i<fl.length),fl[i].length=rl[i].2.1/\LS entE w w.heap.size rl[i].1 fl[i]):
  Calls Tryz.prog 25 #[.slice A rl.length c] w (OvEnd rl w):=by
 by_cases hn:8<rl.length
 ·have h1:(8:Int)<(rl.length:Nat):=by omega
  clear hr hx
  go_enter Tryz.func25,Tryz.ntmps25
  go_wp2
  go_ret
  exact⟨true,rfl,rfl,fun h=>by cases h⟩
 ·have h1:¬ (8:Int)<(rl.length:Nat):=by omega
  have HR:=Lib.hid hr
  have HX:=Lib.hid hx
  have HLN:=Lib.hid hlen
  clear hr hx hlen
  go_enter Tryz.func25,Tryz.ntmps25
  go_wp2
  go_loopg [3] rl.length (fun g s3 wr=>∃k:Nat,s3= .int .i64 (k:Nat)/\k<=rl.length/\rl.length-k<=g/\wr=w/\Hid (∀i (h:i<rl.length),i<k->rl[i].2.1<=60))
  case atStart=>exact⟨0,rfl,Nat.zero_le _,by omega,rfl,Lib.hid (fun i _ h=>absurd h (Nat.not_lt_zero _))⟩
  case round=>
   obtain⟨k,rfl,hkl,hkg,rfl,HK⟩:=hrel
   have hwk:IntKind.i64.wrap ((k:Int)+1)=(k:Int)+1:=IntWalk.i64_in _ (by omega)
   by_cases hk:k<rl.length
   ·obtain⟨b,off,rfl,hb,c0⟩:=HR.out.sl hk
    obtain⟨x1,x2⟩:=HX.out k hk (by rw[HLN.out];exact hk)
    have hki:(k:Int)<(rl.length:Nat):=by omega
    have HK1:Hid (rl[k].2.1<=60->∀i (h:i<rl.length),i<k+1->rl[i].2.1<=60):=Lib.hid fun h0 i h hi=>by
     rcases Nat.lt_or_ge i k with h2 | h2
     ·exact HK.out i h h2
     ·obtain rfl:i=k:=by omega
      exact h0
    have HL:=Lib.hid x2
    have hfk:k<fl.length:=by rw[HLN.out];exact hk
    generalize hfl:fl[k]=l at*
    generalize rl[k]=r at*
    obtain⟨Ar,n,cr⟩:=r
    simp only at x1 c0 HK1 HL
    subst x1
    clear x2 hfl
    by_cases w1:60<l.length
    ·have d1:(60:Int)<(l.length:Nat):=by omega
     go_wp2
     go_ret
     exact⟨true,rfl,rfl,fun h=>by cases h⟩
    ·have d1:¬ (60:Int)<(l.length:Nat):=by omega
     have HK2:=Lib.hid (HK1.out (by omega))
     clear HK1 HK
     go_wp2
     go_loopg [4] l.length (fun g s4 wx=>∃j:Nat,s4= .int .i64 (j:Nat)/\j<=l.length/\l.length-j<=g/\wx=wr)
     case atStart=>exact⟨0,rfl,Nat.zero_le _,by omega,rfl⟩
     case round=>
      obtain⟨j,rfl,hjl,hjg,rfl⟩:=hrel
      have hwj:IntKind.i64.wrap ((j:Int)+1)=(j:Int)+1:=IntWalk.i64_in _ (by omega)
      by_cases hj:j<l.length
      ·have hji:(j:Int)<(l.length:Nat):=by omega
       obtain⟨b2,o2,rfl,hb2,e0,e1⟩:=HL.out.ent hj
       generalize l[j]=x at*
       by_cases w2:60<x.1.size
       ·have d2:(60:Int)<(x.1.size:Nat):=by omega
        go_wp2
        go_ret
        exact⟨true,rfl,rfl,fun h=>by cases h⟩
       ·have d2:¬ (60:Int)<(x.1.size:Nat):=by omega
        by_cases w3:60<x.2.size
        ·have d3:(60:Int)<(x.2.size:Nat):=by omega
         go_wp2
         go_ret
         exact⟨true,rfl,rfl,fun h=>by cases h⟩
        ·have d3:¬ (60:Int)<(x.2.size:Nat):=by omega
         go_wp2
         go_roundg (l.length-(j+1))
         case measure=>omega
         case rel=>exact⟨j+1,by go_num,by omega,Nat.le_refl _,rfl⟩
      ·obtain rfl:j=l.length:=by omega
       have hji:¬ (l.length:Int)<(l.length:Nat):=by omega
       go_wp2
       go_roundg (rl.length-(k+1))
       case measure=>omega
       case rel=>exact⟨k+1,by go_num,by omega,Nat.le_refl _,rfl,HK2⟩
   ·obtain rfl:k=rl.length:=by omega
    have hki:¬ (rl.length:Int)<(rl.length:Nat):=by omega
    go_wp2
    go_ret
    exact⟨false,rfl,rfl,fun _=>⟨by omega,fun i h=>HK.out i h h⟩⟩
end Go.Proofs.YtjoiajmbfbjnnaaGreatDoor
namespace Go.Proofs.YtjoiajmbfbjnnaaGreatDoor
open Go.RowKit Go.Shelf Go.Maps
def pr(i:Nat):Int:=2+36*(i:Int)*((i:Int)+1)+18*(i:Int)
theorem pr_step{i:Nat}(h:i<8):pr i+(72*i+90:Nat)=pr (i+1)/\pr (i+1)<=2738:=by
 have:i=0\/i=1\/i=2\/i=3\/i=4\/i=5\/i=6\/i=7:=by omega
 rcases this with rfl | rfl | rfl | rfl | rfl | rfl | rfl | rfl<;>decide
theorem VersOf.snoc{disk disk':Tp.Disk}{rs:List Int}{root:Int}{es:List Ent}{tok:Nat}{ids:List Int}(h:VersOf disk rs)(ho:∀ (root':Int) (es':List Ent) (tok':Nat) (ids':List Int),Tp.VerAt disk root' es' tok' ids'->Tp.VerAt disk' root' es' tok' ids')(hv:Tp.VerAt disk' root es tok ids)(ht:tok<=480):VersOf disk' (rs++ [root]):=fun x hx=>by
 rcases List.mem_append.1 hx with hx | hx
 ·obtain⟨a,b,c,q1,q2⟩:=h x hx
  exact⟨a,b,c,ho _ _ _ _ q1,q2⟩
 ·rw[List.mem_singleton.1 hx]
  exact⟨es,tok,ids,hv,ht⟩
structure OutF(w0:World)(f0 d0 i t:Nat)(root:Int)(rs:List Int)(Ar:Option Addr)(cr:Nat)(W:World):Prop where
 ex:∃disk fl P N es tok ids,BegF w0 f0 d0 3000 N (300000+(8-i)*20000) t disk fl P W/\N<=600*i/\Tp.VerAt disk root es tok ids/\tok<=60*i/\VersOf disk rs/\P<=pr i
 len:rs.length=i
 row:LO intE 3 W w0.heap.size (.slice Ar rs.length cr) rs
def GeEnd(w0:World)(f0 d0 n:Nat)(e:Ending)(w':World):Prop:=
 ∃ (Ar:Option Addr) (cr:Nat) (rs:List Int) (t:Nat) (disk:Tp.Disk) (fl:List Run) (P:Int) (N:Nat),e= .returned (.tuple #[.slice Ar rs.length cr, .pointer (some ⟨t,0,none⟩), .bool true])/\BegF w0 f0 d0 3000 N 300000 t disk fl P w'/\N<=4800/\VersOf disk rs/\rs.length=n/\P<=2738/\LO intE 3 w' w0.heap.size (.slice Ar rs.length cr) rs
theorem grown21_any(A:Option Addr)(c:Nat)(rl:List Sl)(fl:List (List Ent))(w0 w:World)(f d:Nat)(hst:Stg w0 f d 3000 0 500000 noDisk 2 w)(hr:LS slE w0 w0.heap.size A rl)(hlen:fl.length=rl.length)(hx:∀i (h1:i<rl.length) (h2:i<fl.length),fl[i].length=rl[i].2.1/\LS entE w0 w0.heap.size rl[i].1 fl[i])(h8:rl.length<=8)(h60:∀i (h:i<rl.length),rl[i].2.1<=60)(h00:0<w0.heap.size):
  Calls Tryz.prog 37 #[.pointer (some ⟨f,0,none⟩), .slice A rl.length c] w (GeEnd w0 f d rl.length):=by
 have HNW:=Lib.hid (stg_new hst (by decide))
 have HRS:=Lib.hid hr
 have HRL:=Lib.hid hx
 have H60:=Lib.hid h60
 clear hst hr hx h60
 go_enter Tryz.func37,Tryz.ntmps37
 go_wp2_with fail
 refine Calls.mono HNW.out ?_
 rintro e w3 ⟨t,rfl,hbg,b3⟩
 have HS0:Hid (OutF w0 f d 0 t 0 [] none 0 w3):=Lib.hid ⟨⟨noDisk, [],2,0, [],0, [],hbg.toF.less (by omega),Nat.le_refl _,Tp.VerAt.none_ _ _,Nat.le_refl _,fun x hx=>absurd hx List.not_mem_nil,by decide⟩,rfl,LO.nil_ _ _⟩
 clear hbg b3 HNW
 go_wp2
 go_loopg [7,8,9,10] rl.length (fun gg s7 s8 s9 s10 wr=>∃ (i t:Nat) (root:Int) (rs:List Int) (Ar:Option Addr) (cr:Nat),s7= .slice Ar rs.length cr/\s8= .int .i64 root/\s9= .pointer (some ⟨t,0,none⟩)/\s10= .int .i64 (i:Nat)/\i<=rl.length/\rl.length-i<=gg/\Hid (OutF w0 f d i t root rs Ar cr wr))
 case atStart=>exact⟨0,t,0, [],none,0,rfl,rfl,rfl,rfl,Nat.zero_le _,by omega,HS0⟩
 case round=>
  clear HS0
  obtain⟨i,t,root,rs,Ar,cr,rfl,rfl,rfl,rfl,hil,hig,HS⟩:=hrel
  have hwi:IntKind.i64.wrap ((i:Int)+1)=(i:Int)+1:=IntWalk.i64_in _ (by omega)
  by_cases hi:i<rl.length
  ·have hii:(i:Int)<(rl.length:Nat):=by omega
   have hif:i<fl.length:=by omega
   obtain⟨e1,e2⟩:=HRL.out i hi hif
   have hl60:=H60.out i hi
   obtain⟨bb,oo,rfl,hbb,g00⟩:=HRS.out.sl hi
   obtain⟨⟨disk,frl,P,N,es,tok,ids,hst,hN,hver,htok,hrs,hpp⟩,hlr,hrow⟩:=HS.out
   generalize fl[i]=li at*
   generalize rl[i]=sl at*
   obtain⟨Ai,ni,ci⟩:=sl
   simp only at e1 e2 g00 hl60
   subst e1
   have hi8:i<8:=by omega
   have hps:=pr_step hi8
   have HLI:=Lib.hid e2
   have HG0:=Lib.hid g00
   have HTR:=Lib.hid (begF_tree (root:=root) (K:=60) (R0:=300000+(7-i)*20000+2720) (D:=72*i+90) (T:=60*i) (hst.less (by omega)) (by decide) hver htok (by omega) (by omega))
   have HRST:=Lib.hid hrs
   have HROW:=Lib.hid hrow
   have HLR:=Lib.hid hlr
   clear hst hver hrs hrow HS e2 g00 hlr
   go_wp2_with fail
   refine Calls.mono HTR.out ?_
   rintro e w5 ⟨u,rfl,hg5,b5,hu5⟩
   have HROW5:=Lib.hid (HROW.out.below b5)
   obtain⟨b0,hb0⟩:∃b,b=w5.heap.size:=⟨_,rfl⟩
   rw[<-hb0]at hg5
   have HI0:=Lib.hid hg5
   clear hg5 b5 hu5 HTR HROW hb0
   go_wp2
   go_loopg [12] li.length (fun ga s12 wr=>∃ (k:Nat) (es:List Ent),s12= .int .i64 (k:Nat)/\k<=li.length/\li.length-k<=ga/\Hid (GngF w0 f d 3000 N t u disk frl P (72*i+90) (60*i) 60 k b0 (300000+(7-i)*20000+2720) es wr)/\Hid (LO intE 3 wr w0.heap.size (.slice Ar rs.length cr) rs))
   case atStart=>exact⟨0,es,rfl,Nat.zero_le _,by omega,HI0,HROW5⟩
   case round=>
    clear HI0 HROW5
    obtain⟨k,es,rfl,hkl,hkg,HI,HROW⟩:=hrel
    have hwk:IntKind.i64.wrap ((k:Int)+1)=(k:Int)+1:=IntWalk.i64_in _ (by omega)
    have hbl:=HI.out.below
    have g0:=(hbl.cell (p:=⟨bb,oo+i,none⟩) hbb).trans HG0.out
    have hbz:bb<wr.heap.size:=Nat.lt_of_lt_of_le hbb hbl.size
    by_cases hk:k<li.length
    ·have hki:(k:Int)<(li.length:Nat):=by omega
     obtain⟨ba,oa,rfl,hba,k1,k2⟩:=(HLI.out.below hbl).ent hk
     have hbaz:ba<wr.heap.size:=Nat.lt_of_lt_of_le hba hbl.size
     generalize li[k]=x at*
     obtain⟨s,v⟩:=x
     simp only at k1 k2
     have hbA:Below wr.heap.size wr (wr.alloc (.cells #[.string s, .string v] 34)):=(Below.refl _ wr).alloc (Nat.le_refl _) _
     have hXA:=Blk.new wr 34 #[.string s, .string v]
     have HIA:=Lib.hid (HI.out.up hbA)
     have HROWA:=Lib.hid (HROW.out.below hbA)
     have hgb:b0<=wr.heap.size:=HI.out.hb
     have y0:(wr.alloc (.cells #[.string s, .string v] 34)).cell? ⟨wr.heap.size,0,none⟩=some (.string s):=hXA.cell 0
     have y1:(wr.alloc (.cells #[.string s, .string v] 34)).cell? ⟨wr.heap.size,1,none⟩=some (.string v):=hXA.cell 1
     have yl:=hXA.lt
     clear hXA hbA HI HROW hba hbl
     have hk60:k<60:=by omega
     have hma:=fun W=>may_any s v W
     cases hgo:(v.toList== [103,111,110,101])with
     |true=>
      as_aux_lemma=>
      have hgo2:=hgo
      obtain⟨m,hm⟩:∃m,m=En.may s v:=⟨_,rfl⟩
      rw[<-hm]at hma
      have HMAY:=Lib.hid hma
      have HD:=Lib.hid (gngF_del HIA.out hk60 (by omega) (by omega) s)
      clear hma hm
      go_wp2_with fail
      refine(HMAY.out _).mono ?_
      rintro e wA ⟨rfl,hwA⟩
      subst hwA
      go_wp2_with fail
      refine HD.out.mono ?_
      rintro e w6 ⟨b,rfl,h6,kp6⟩
      have HI6:=Lib.hid h6
      have HROW6:=Lib.hid (kp6 _ _ _ _ _ _ HROWA.out (.inr (.inl rfl)))
      clear h6 kp6 HD
      go_wp2
      go_roundg (li.length-(k+1))
      case measure=>omega
      case rel=>exact⟨k+1,_,by go_num,by omega,Nat.le_refl _,HI6,HROW6⟩
     |false=>
      have hgo2:=hgo
      cases hm:En.may s v with
      |false=>
       as_aux_lemma=>
       rw[hm]at hma
       have HMAY:=Lib.hid hma
       have HE:=Lib.hid HIA.out.skip
       clear hma hm HIA
       go_wp2_with fail
       refine(HMAY.out _).mono ?_
       rintro e wA ⟨rfl,hwA⟩
       subst hwA
       go_wp2
       go_roundg (li.length-(k+1))
       case measure=>omega
       case rel=>exact⟨k+1,es,by go_num,by omega,Nat.le_refl _,HE,HROWA⟩
      |true=>
       as_aux_lemma=>
       rw[hm]at hma
       have HMAY:=Lib.hid hma
       have HP:=Lib.hid (gngF_put HIA.out hk60 (by omega) (by omega) hm)
       clear hma hm
       go_wp2_with fail
       refine(HMAY.out _).mono ?_
       rintro e wA ⟨rfl,hwA⟩
       subst hwA
       clear HMAY
       go_wp2_with fail
       refine HP.out.mono ?_
       rintro e w6 ⟨rfl,h6,kp6⟩
       have HI6:=Lib.hid h6
       have HROW6:=Lib.hid (kp6 _ _ _ _ _ _ HROWA.out (.inr (.inl rfl)))
       clear h6 kp6 HP
       go_wp2
       go_roundg (li.length-(k+1))
       case measure=>omega
       case rel=>exact⟨k+1,_,by go_num,by omega,Nat.le_refl _,HI6,HROW6⟩
    ·obtain rfl:k=li.length:=by omega
     have hki:¬ (li.length:Int)<(li.length:Nat):=by omega
     have HFL:=Lib.hid (gngF_flush HI.out (by omega) (by omega) (by omega))
     clear hbl HI
     go_wp2_with fail
     refine HFL.out.mono ?_
     rintro e w6 ⟨rfl,disk',root',P',fl',tok',ids',hdon,htk,hpp',hver',hold,hkeep,hrt⟩
     have HRT:=Lib.hid hrt
     have HDON:=Lib.hid hdon
     have HROW6:=Lib.hid (hkeep _ _ _ _ _ _ HROW.out (.inr (.inl rfl)))
     have HVS:Hid (VersOf disk' (rs++ [root'])):=Lib.hid (HRST.out.snoc hold hver' (by omega))
     have HVER:=Lib.hid hver'
     clear hdon hrt hver' hold hkeep HFL HRST HROW
     go_wp2_with fail
     refine HRT.out.mono ?_
     rintro e w7 ⟨rfl,hw7⟩
     obtain rfl:=hw7
     clear HRT
     have hP2:P'<=pr (i+1):=by have:=hps.1;omega
     have hbw:w0.heap.size<=w7.heap.size:=HDON.out.below.size
     have hraw:w7.ownsRow w0.heap.size 3 1 (.slice Ar rs.length cr) rs.length (intE.cells rs):=HROW6.out
     have hrl8:rs.length<=8:=by have:=HLR.out;omega
     go_wp2_with (at_builtin;refine wpList_app1 rfl _ _ 29 rfl eiInt Tryz.underlying29 rfl (by decide) rfl hraw rfl (by simp) rfl (by simp[Value.oneCell']) (by unfold maxLen;omega) (by omega) hbw ?_;intro v' w9 hown' hgrow hbel hob9 _)
     obtain⟨A9,c9,rfl⟩:=own_form hown'
     have HD9:=Lib.hid (HDON.out.row HROW6.out (Nat.le_refl _) h00 hgrow)
     have HROW9:Hid (LO intE 3 w9 w0.heap.size (.slice A9 (rs.length+1) c9) (rs++ [root'])):=Lib.hid (LO.snoc rfl rfl rfl hown')
     clear hown' hgrow hbel hob9 HDON HROW6 hraw
     have HKF:=Lib.hid (donF_free HD9.out)
     go_wp2_with fail
     refine Calls.mono HKF.out ?_
     intro e w10 he
     obtain⟨A7,c7,rfl,_,rs7,b7⟩:=he.open_
     have HD10:=Lib.hid (HD9.out.below_ b7)
     have HROW10:=Lib.hid (HROW9.out.below b7)
     have HR7:=Lib.hid rs7
     have HKP:=Lib.hid (donF_pages HD10.out)
     clear he rs7 b7 HKF HD9 HROW9
     go_wp2_with fail
     refine Calls.mono HKP.out ?_
     rintro e w11 ⟨rfl,hw11⟩
     obtain rfl:=hw11
     have HKN:=Lib.hid (donF_new HD10.out (by omega) A7 c7 HR7.out)
     clear HKP HD10 HR7
     go_wp2_with fail
     refine Calls.mono HKN.out ?_
     rintro e w12 ⟨t3,rfl,hb,b8⟩
     have hrl9:(rs++ [root']).length=rs.length+1:=by simp
     have HS9:Hid (OutF w0 f d (i+1) t3 root' (rs++ [root']) A9 c9 w12):=Lib.hid ⟨⟨disk',fl',P',N+600,_,tok',ids',hb.less (by omega),by omega,HVER.out,by omega,HVS.out,hP2⟩,by rw[List.length_append,HLR.out];rfl,by rw[hrl9];exact HROW10.out.below b8⟩
     clear hb b8 HKN HROW10 HVER HVS HLR
     go_wp2
     go_roundg (rl.length-(i+1))
     case measure=>omega
     case rel=>exact⟨i+1,t3,root',rs++ [root'],A9,c9,by rw[hrl9],rfl,rfl,by go_num,by omega,Nat.le_refl _,HS9⟩
  ·obtain rfl:i=rl.length:=by omega
   have hii:¬ (rl.length:Int)<(rl.length:Nat):=by omega
   obtain⟨⟨disk,frl,P,N,es0,tok0,ids0,hst,hN,_,_,hrs,hpp⟩,hlr,hrow⟩:=HS.out
   have hpq:P<=2738:=by
    have:rl.length=0\/rl.length=1\/rl.length=2\/rl.length=3\/rl.length=4\/rl.length=5\/rl.length=6\/rl.length=7\/rl.length=8:=by omega
    rcases this with e | e | e | e | e | e | e | e | e<;>rw[e]at hpp<;>exact Int.le_trans hpp (by decide)
   have HE:Hid (GeEnd w0 f d rl.length (.returned (.tuple #[.slice Ar rs.length cr, .pointer (some ⟨t,0,none⟩), .bool true])) wr):=Lib.hid ⟨Ar,cr,rs,t,disk,frl,P,N,rfl,hst.less (by omega),by omega,hrs,hlr,hpq,hrow⟩
   clear hst hrs hrow HS hlr hpp hpq
   go_wp2
   go_ret3
   exact HE.out
section
variable {S:Nat->Prop}{B t u:Nat}{room:Int}{disk:Tp.Disk}{TM:Nat->Tp.Pst->World->Prop}{root:Int}{σ:Tp.Pst}{es:List Ent}{tok:Nat}{ids:List Int}
theorem scan_ver(M:Mach S B t room disk TM)(hv:Tp.VerAt (σ.view disk) root es tok ids)(hv0:σ.view disk 0=none)(htl:tok<=200000)(frm hi:ByteArray)(r:Nat)(W:World)(h:On S B t u TM root 0 (r+2*ids.length) σ W):
  Calls Tryz.prog 66 #[.pointer (some ⟨u,0,none⟩), .string frm, .string hi] W (ScEnd S B t u TM root r σ (Tp.scanF es frm hi) W):=by
 obtain⟨hf1,hf2,hs⟩:=ver_few hv
 rcases hv with⟨rfl,rfl,rfl⟩ | ⟨hh,s,rfl,rfl,rfl,q4,q5,q6,q8⟩
 ·have hc:∀c:Nd.Node->Nat,Tp.cost c disk σ 24 0=0:=fun c=>by rw[Tp.cost,hv0]
  exact scan_any M u 0 frm hi σ [] true r W (by rw[hc];exact Nat.zero_le _) (fun _=>rfl) (fun h0=>absurd rfl h0) (by rw[hc];exact h)
 ·have h8:=Tp.low_of q8 (by omega)
  have hz:s.id≠0:=fun e=>by
   obtain⟨y,hy⟩:∃y,σ.view disk s.id=some y:=by
    obtain⟨y,y1,_⟩:=Mk.tr_kids q5 s.id (Tp.tr_id q5)
    exact⟨y,y1⟩
   rw[e,hv0]at hy
   cases hy
  have h1:=cost_tr (σ:=σ) (disk:=disk) hh 24 none none s q5
  have h2:=cost_rd (σ:=σ) (disk:=disk) hh 24 none none s q5
  refine scan_any M u s.id frm hi σ _ (Tp.ystep (scanS hi) [] (Tp.from_ s.es frm)).2 r W (by omega) (fun h0=>absurd h0 hz) (fun _=> ?_) (h.less M (by omega))
  rw[Tp.visit_tr (scanS hi) hh 24 none none s [] (by omega) q5,scan_y hs]
end
section
variable {w0 W W':World}{F:FFile}{f0 d0 n N t u B m r c:Nat}{used:List Run}{σ:Tp.Pst}{disk:Tp.Disk}{fl:List Run}{P x:Int}{D T K k b0 R0:Nat}{es:List Ent}{y:Nd.Node}{vs:List Ct.Ver}
theorem tmd_pos(h:TMd F B t m n used disk r σ W)(hv:σ.view disk x=some y):0<x:=by
 rcases view_cases hv with⟨h1,h2⟩ | ⟨_,h2,h3,_,h5⟩
 ·have:=h.mem.ap.hm x h1
  omega
 ·omega
theorem tmd_view0(h:TMd F B t m n used disk r σ W):σ.view disk 0=none:=by
 cases hv:σ.view disk 0 with
 |none=>rfl
 |some y=>have:=tmd_pos h hv;omega
theorem gngF_put2(h:GngF w0 f0 d0 n N t u disk fl P D T K k b0 R0 es W)(hk:k<K)(hT:T+K<=1000)(hD:6*(T+K)+90<=5*D){s v:ByteArray}(hm:En.may s v=true):
  Calls Tryz.prog 27 #[.pointer (some ⟨u,0,none⟩), .string s, .string v] W fun e W'=>e= .returned (.int .i64 0)/\GngF w0 f0 d0 n N t u disk fl P D T K (k+1) b0 R0 (En.put es s v) W'/\KeepL W W'/\Fr (fun x=>w0.heap.size<=x/\x<b0) W W':=by
 obtain⟨⟨F,a,e1,e2,e3,e4,e5,e6,rfl,h1⟩,h2,h3⟩:=h
 refine(ing_put h1 hk hT hD (nums_minus h3.1 fl) h3.2 hm).mono ?_
 rintro e W' ⟨rfl,g1,g2,g3⟩
 exact⟨rfl,⟨⟨F,a,e1,e2,e3,e4,e5,e6,rfl,g1⟩,h2,h3⟩,g3,g2.more fun x hx=>⟨h1.hF x hx,h1.low x hx⟩⟩
theorem gngF_del2(h:GngF w0 f0 d0 n N t u disk fl P D T K k b0 R0 es W)(hk:k<K)(hT:T+K<=1000)(hD:6*(T+K)+90<=5*D)(s:ByteArray):
  Calls Tryz.prog 67 #[.pointer (some ⟨u,0,none⟩), .string s] W fun e W'=>∃b:Bool,e= .returned (.tuple #[.bool b, .int .i64 0])/\GngF w0 f0 d0 n N t u disk fl P D T K (k+1) b0 R0 (En.del es s) W'/\KeepL W W'/\Fr (fun x=>w0.heap.size<=x/\x<b0) W W':=by
 obtain⟨⟨F,a,e1,e2,e3,e4,e5,e6,rfl,h1⟩,h2,h3⟩:=h
 refine(ing_del h1 hk hT hD (nums_minus h3.1 fl) h3.2 s).mono ?_
 rintro e W' ⟨b,rfl,g1,g2,g3⟩
 exact⟨b,rfl,⟨⟨F,a,e1,e2,e3,e4,e5,e6,rfl,g1⟩,h2,h3⟩,g3,g2.more fun x hx=>⟨h1.hF x hx,h1.low x hx⟩⟩
structure CatF(w0:World)(f0 d0 n N t u c:Nat)(disk:Tp.Disk)(fl:List Run)(P:Int)(D K k b0 R0:Nat)(vs:List Ct.Ver)(W:World):Prop where
 g:GngF w0 f0 d0 n N t u disk fl P D 0 K k b0 R0 (vs.map Ct.vent) W
 blk:Blk W c 186 #[.pointer (some ⟨u,0,none⟩)]
 cb:b0<=c
 ok:∀x∈vs,x.Ok
def KeepC(w0:World)(b0:Nat)(W W':World):Prop:=KeepL W W'/\Fr (fun x=>w0.heap.size<=x/\x<b0) W W'
theorem catF_put(h:CatF w0 f0 d0 n N t u c disk fl P D K k b0 R0 vs W)(hk:k<K)(hT:K<=1000)(hD:6*K+90<=5*D){v:Ct.Ver}(hv:v.Ok)(hn:∀x∈vs,x.id≠v.id):
  Calls Tryz.prog 54 #[.pointer (some ⟨c,0,none⟩), .agg #[.int .i64 v.id, .int .i64 v.par, .int .i64 v.root, .int .i64 v.edges]] W fun e W'=>e= .returned (.int .i64 0)/\(∃vs':List Ct.Ver,CatF w0 f0 d0 n N t u c disk fl P D K (k+1) b0 R0 vs' W'/\(∀x,x∈vs' ↔ x=v\/x∈vs)/\vs'.length=vs.length+1)/\KeepC w0 b0 W W':=by
 obtain⟨vs',p1,p2,p3⟩:=Ct.put_vers hv vs h.ok hn
 refine(cput_any v hv c u W h.blk (Q:=fun k' W'=>k'=0/\CatF w0 f0 d0 n N t u c disk fl P D K (k+1) b0 R0 vs' W'/\KeepC w0 b0 W W') fun W1 hb=> ?_).mono ?_
 ·refine(gngF_put2 (h.g.up hb) hk (by omega) (by omega) (Ct.may_ent v)).mono ?_
  rintro e W' ⟨rfl,g1,g2,g3⟩
  have hc:Blk W' c 186 #[.pointer (some ⟨u,0,none⟩)]:=g3.blk (h.blk.below hb h.blk.lt) (fun a=>by have:=h.cb;omega)
  rw[p1]at g1
  exact⟨0,rfl,⟨rfl,⟨g1,hc,h.cb,fun x hx=>((p2 x).1 hx).elim (fun e=>e ▸ hv) (h.ok x)⟩,(KeepL.of hb).trans g2,(Fr.of_below hb).trans g3⟩,hc⟩
 ·rintro e W' ⟨k',rfl,rfl,h1,h2⟩
  exact⟨rfl,⟨vs',h1,p2,p3⟩,h2⟩
theorem catF_drop(h:CatF w0 f0 d0 n N t u c disk fl P D K k b0 R0 vs W)(hk:k+3<=K)(hT:K<=100)(hD:6*K+90<=5*D){v:Ct.Ver}(hv:v∈vs)(hn:∀x∈vs,x.id=v.id->x=v):
  Calls Tryz.prog 55 #[.pointer (some ⟨c,0,none⟩), .int .i64 v.id] W fun e W'=>e= .returned (.int .i64 0)/\CatF w0 f0 d0 n N t u c disk fl P D K (k+3) b0 R0 (vs.filter fun x=>x.id != v.id) W'/\KeepC w0 b0 W W':=by
 obtain⟨⟨⟨F,a,e1,e2,e3,e4,e5,e6,rfl,⟨root,σ,ids,tok,hst,htk,hpg⟩,hF,hlow,hb0,hbel⟩,g2,g3⟩,hc,hcb,hok⟩:=h
 have M:=hst.mach
 obtain⟨hnv,hps⟩:=hst.newv
 have hfw:=ver_few hnv
 have hfind:=hst.find (Ct.vkey v.id)
 rw[Ct.get_vers (hok v hv) vs hok hn hv]at hfind
 have hBc:a.B<=c:=by have:=hst.on.hu;have:=hlow a.u (.inr rfl);omega
 have hSF:∀x,SD F a.t a.m x->FU F a x:=fun x hx=> .inl hx
 refine cdrop_any M c a.u root v (hok v hv) (288*(K-(k+2))+R0+2*ids.length) (288*(K-(k+2))+R0) σ hfind W (hst.on.less M (by omega)) hc hBc (fun W1 h1=> ?_) (Q:=fun W'=>CatF w0 f0 d0 n N t a.u c disk fl P D K (k+3) b0 R0 (vs.filter fun x=>x.id != v.id) W'/\KeepC w0 b0 W W') (fun W1 h1 hf1=> ?_)
 ·have:=scan_ver M hnv (tmd_view0 hst.on.tm) (by omega) ⟨#[72]⟩ ⟨#[73]⟩ (288*(K-(k+2))+R0) W1 h1
  rwa [Ct.scan_heads]at this
 ·have hf2:Fr (FU F a) W W1:=hf1.more hSF
  have hg:GngF w0 f0 d0 n N t a.u disk fl P D 0 K (k+2) b0 R0 (vs.map Ct.vent) W1:=⟨⟨F,a,e1,e2,e3,e4,e5,e6,rfl,⟨⟨root,σ,ids,tok,hst.with_ h1,by omega,hpg⟩,hF,hlow,Nat.le_trans hb0 hf1.size,hbel.trans (hf2.low hbel.size hF)⟩⟩,g2,g3⟩
  refine(gngF_del2 hg (by omega) (by omega) (by omega) (Ct.vkey v.id)).mono ?_
  rintro e W' ⟨b,rfl,q1,q2,q3⟩
  rw[Ct.del_vers (hok v hv).lt vs hok]at q1
  have hf3:Fr (fun x=>w0.heap.size<=x/\x<b0) W W':=(hf2.more fun x hx=>⟨hF x hx,hlow x hx⟩).trans q3
  exact⟨b,rfl,⟨q1,hf3.blk hc (fun a=>by omega),hcb,fun x hx=>hok x (List.mem_filter.1 hx).1⟩,(hst.keepL hf2).trans q2,hf3⟩
end
section
variable {w0 W W':World}{f0 d0 n N t u c:Nat}{disk:Tp.Disk}{fl:List Run}{P:Int}{D K k k' b0 R0:Nat}{vs vs':List Ct.Ver}
theorem CatF.more(h:CatF w0 f0 d0 n N t u c disk fl P D K k b0 R0 vs W)(hk:k<=k'):CatF w0 f0 d0 n N t u c disk fl P D K k' b0 R0 vs W:=by
 obtain⟨j,rfl⟩:=Nat.exists_eq_add_of_le hk
 clear hk
 induction j with
 |zero=>exact h
 |succ j ih=>exact⟨ih.g.skip,ih.blk,ih.cb,ih.ok⟩
theorem CatF.row{b:Nat}{v:Value}{l:List Int}(h:CatF w0 f0 d0 n N t u c disk fl P D K k b0 R0 vs W)(ho:LO intE 3 W b v l)(hb:b0<=b)(h0:w0.heap.size<=b)(hg:W.grownBy W' v.ownBlock):CatF w0 f0 d0 n N t u c disk fl P D K k b0 R0 vs W':=by
 obtain⟨⟨⟨F,a,e1,e2,e3,e4,e5,e6,rfl,⟨root,σ,ids,tok,hst,htk,hpg⟩,hF,hlow,hb0,hbel⟩,g2,g3⟩,hc,hcb,hok⟩:=h
 have hBb:a.B<=b:=by have:=hst.on.hu;have:=hlow a.u (.inr rfl);omega
 have hc':Blk W' c 186 #[.pointer (some ⟨a.u,0,none⟩)]:=Blk.grown hc hg (fun e=>by
  obtain⟨cs,hcs⟩:=own_obj ho e.symm
  exact Blk.ne_ hc hcs (by decide) rfl)
 exact⟨⟨⟨F,a,e1,e2,e3,e4,e5,e6,rfl,⟨⟨root,σ,ids,tok,hst.with_ (hst.on.row hst.mach ho hBb (by decide) (by decide) (by decide) (by decide) (by decide) hg),htk,hpg⟩,hF,hlow,Nat.le_trans hb0 hg.size,hbel.grown hg hbel.size (fun k e=>Nat.le_trans h0 (World.ownsRow.lt ho k e).1)⟩⟩,g2,g3⟩,hc',hcb,hok⟩
structure CvSt(w0:World)(f0 d0 N t u c:Nat)(disk:Tp.Disk)(fl:List Run)(P:Int)(b0 R0:Nat)(rs:List Int)(i:Nat)(vs:List Ct.Ver)(Ar:Option Addr)(cr:Nat)(Ak:Option Addr)(ck:Nat)(kl:List Int)(W:World):Prop where
 cat:CatF w0 f0 d0 3000 N t u c disk fl P 66 40 (4*i) b0 R0 vs W
 ids:∀x∈vs,x.id<=i
 uni:∀x∈vs,∀y∈vs,x.id=y.id->x=y
 kin:∀z,z∈kl ↔ ∃x∈vs,(x.root:Int)=z
 krs:∀z∈kl,z∈rs
 vlen:vs.length<=i
 klen:kl.length<=i
 rowr:LO intE 3 W w0.heap.size (.slice Ar rs.length cr) rs
 rowk:LO intE 3 W b0 (.slice Ak kl.length ck) kl
 b0w:w0.heap.size<=b0
structure CvMid(w0:World)(f0 d0 N t u c:Nat)(disk:Tp.Disk)(fl:List Run)(P:Int)(b0 R0:Nat)(rs:List Int)(i zn:Nat)(vs vs':List Ct.Ver)(Ar:Option Addr)(cr:Nat)(Ak:Option Addr)(ck:Nat)(kl:List Int)(W:World):Prop where
 cat:CatF w0 f0 d0 3000 N t u c disk fl P 66 40 (4*i+1) b0 R0 vs' W
 mem:∀x,x∈vs' ↔ x=⟨i+1,0,zn,0⟩\/x∈vs
 ids:∀x∈vs,x.id<=i
 uni:∀x∈vs,∀y∈vs,x.id=y.id->x=y
 kin:∀z,z∈kl ↔ ∃x∈vs,(x.root:Int)=z
 krs:∀z∈kl,z∈rs
 vlen:vs'.length<=i+1
 klen:kl.length<=i
 rowr:LO intE 3 W w0.heap.size (.slice Ar rs.length cr) rs
 rowk:LO intE 3 W b0 (.slice Ak kl.length ck) kl
 b0w:w0.heap.size<=b0
variable {rs kl:List Int}{i zn cr ck:Nat}{Ar Ak:Option Addr}
theorem cvst_put(h:CvSt w0 f0 d0 N t u c disk fl P b0 R0 rs i vs Ar cr Ak ck kl W)(hi:i<8)(hz:zn<4294967296):
  Calls Tryz.prog 54 #[.pointer (some ⟨c,0,none⟩), .agg #[.int .i64 ((i:Int)+1), .int .i64 0, .int .i64 zn, .int .i64 0]] W fun e W'=>e= .returned (.int .i64 0)/\∃vs',CvMid w0 f0 d0 N t u c disk fl P b0 R0 rs i zn vs vs' Ar cr Ak ck kl W':=by
 have hp:=catF_put h.cat (by omega) (by omega) (by omega) (v:=⟨i+1,0,zn,0⟩) ⟨by simp,by simp;omega,by simp,hz,by simp⟩ (fun x hx e=>by have:=h.ids x hx;simp only at e;omega)
 simp only at hp
 rw[show((i+1:Nat):Int)=(i:Int)+1 from by omega,show((0:Nat):Int)=0 from rfl]at hp
 refine hp.mono ?_
 rintro e W' ⟨rfl,⟨vs',h1,h2,h3⟩,hk,hf⟩
 exact⟨rfl,vs',h1,h2,h.ids,h.uni,h.kin,h.krs,by have:=h.vlen;omega,h.klen,hk _ _ _ _ _ _ h.rowr (.inr (.inl rfl)),hk _ _ _ _ _ _ h.rowk (.inr (.inl rfl)),h.b0w⟩
theorem cvmid_drop(h:CvMid w0 f0 d0 N t u c disk fl P b0 R0 rs i zn vs vs' Ar cr Ak ck kl W)(hi:i<8):
  Calls Tryz.prog 55 #[.pointer (some ⟨c,0,none⟩), .int .i64 ((i:Int)+1)] W fun e W'=>e= .returned (.int .i64 0)/\∃vs2,CvSt w0 f0 d0 N t u c disk fl P b0 R0 rs (i+1) vs2 Ar cr Ak ck kl W':=by
 have hv:(⟨i+1,0,zn,0⟩:Ct.Ver)∈vs':=(h.mem _).2 (.inl rfl)
 have hp:=catF_drop h.cat (by omega) (by omega) (by omega) hv (fun x hx e=>by
  rcases(h.mem x).1 hx with rfl | hx
  ·rfl
  ·have:=h.ids x hx;simp only at e;omega)
 simp only at hp
 rw[show((i+1:Nat):Int)=(i:Int)+1 from by omega]at hp
 refine hp.mono ?_
 rintro e W' ⟨rfl,h1,hk,hf⟩
 have hmem:∀x,x∈vs'.filter (fun x=>x.id != i+1) ↔ x∈vs:=fun x=>by
  rw[List.mem_filter,h.mem]
  constructor
  ·rintro⟨rfl | hx,hne⟩
   ·simp at hne
   ·exact hx
  ·exact fun hx=>⟨.inr hx,by have:=h.ids x hx;simp;omega⟩
 have hlen:(vs'.filter fun x=>x.id != i+1).length<=i+1:=Nat.le_trans (List.length_filter_le _ _) h.vlen
 exact⟨rfl,_,h1.more (by omega),fun x hx=>by have:=h.ids x ((hmem x).1 hx);omega,fun x hx y hy=>h.uni x ((hmem x).1 hx) y ((hmem y).1 hy),fun z=>by rw[h.kin];exact⟨fun⟨x,hx,e⟩=>⟨x,(hmem x).2 hx,e⟩,fun⟨x,hx,e⟩=>⟨x,(hmem x).1 hx,e⟩⟩,h.krs,hlen,by have:=h.klen;omega,hk _ _ _ _ _ _ h.rowr (.inr (.inl rfl)),hk _ _ _ _ _ _ h.rowk (.inr (.inl rfl)),h.b0w⟩
theorem cvmid_keep(h:CvMid w0 f0 d0 N t u c disk fl P b0 R0 rs i zn vs vs' Ar cr Ak ck kl W)(hz:(zn:Int)∈rs){A9:Option Addr}{c9:Nat}(ho:LO intE 3 W' b0 (.slice A9 (kl++ [(zn:Int)]).length c9) (kl++ [(zn:Int)]))(hr:LO intE 3 W' w0.heap.size (.slice Ar rs.length cr) rs)(hg:W.grownBy W' (Value.slice Ak kl.length ck).ownBlock):
  CvSt w0 f0 d0 N t u c disk fl P b0 R0 rs (i+1) vs' Ar cr A9 c9 (kl++ [(zn:Int)]) W':=by
 refine⟨(h.cat.row h.rowk (Nat.le_refl _) h.b0w hg).more (by omega),fun x hx=> ?_,fun x hx y hy e=> ?_,fun z=> ?_,fun z hz'=> ?_,h.vlen,by have:=h.klen;simp;omega,hr,ho,h.b0w⟩
 ·rcases(h.mem x).1 hx with rfl | hx
  ·exact Nat.le_refl _
  ·have:=h.ids x hx;omega
 ·rcases(h.mem x).1 hx with rfl | hx<;>rcases(h.mem y).1 hy with rfl | hy
  ·rfl
  ·have:=h.ids y hy;simp only at e;omega
  ·have:=h.ids x hx;simp only at e;omega
  ·exact h.uni x hx y hy e
 ·rw[List.mem_append,h.kin,List.mem_singleton]
  constructor
  ·rintro(⟨x,hx,e⟩ | rfl)
   ·exact⟨x,(h.mem x).2 (.inr hx),e⟩
   ·exact⟨_,(h.mem _).2 (.inl rfl),rfl⟩
  ·rintro⟨x,hx,e⟩
   rcases(h.mem x).1 hx with rfl | hx
   ·exact .inr e.symm
   ·exact .inl ⟨x,hx,e⟩
 ·rcases List.mem_append.1 hz' with hz' | hz'
  ·exact h.krs z hz'
  ·rw[List.mem_singleton.1 hz'];exact hz
end
section
variable {w0 W W':World}{f0 d0 N t u c:Nat}{disk:Tp.Disk}{fl:List Run}{P:Int}{b0 R0:Nat}{vs:List Ct.Ver}{rs kl:List Int}{i:Nat}
theorem Own.frS{S:Nat->Prop}{w w':World}{base:Nat}{v:Value}{l:List Run}(h:Own w base v l)(hf:Fr S w w')(hS:∀k,S k->k<base):Own w' base v l:=by
 rcases h with⟨h4,h5 | ⟨g,cap,cur,hv,hb,hh,q⟩⟩
 ·exact⟨h4, .inl h5⟩
 ·have hB:Blk w g 106 cur:=hh
  exact⟨h4, .inr ⟨g,cap,cur,hv,hb,hf.blk hB (fun e=>by have:=hS g e;omega),q⟩⟩
structure CvFin(w0:World)(f0 d0 t u b0:Nat)(kl:List Int)(W:World):Prop where
 ex:∃ (S:Nat->Prop) (root:Int) (all1 all2:List Int) (T1 T2:World->Prop),Blk W u 140 (TreeV t root 0)/\all1.length<=5400/\all2.length<=5400/\Rp.norm (all1.map runOf)=Rp.norm (all2.map runOf)/\
  (∀x,S x->w0.heap.size<=x/\x<b0)/\
  (∀W1,Below W.heap.size W W1->Calls Tryz.prog 56 #[.pointer (some ⟨t,0,none⟩), .int .i64 root] W1 fun e w'=>∃v,e= .returned (.tuple #[v, .int .i64 0])/\Own w' W1.heap.size v (Rp.norm (all1.map runOf))/\T1 w'/\Fr S W1 w')/\
  (∀W2 A c,T1 W2->LS intE W2 W2.heap.size A (kl++ [root])->Calls Tryz.prog 33 #[.pointer (some ⟨t,0,none⟩), .slice A (kl++ [root]).length c] W2 fun e w'=>∃v,e= .returned (.tuple #[v, .int .i64 0])/\Own w' W2.heap.size v (Rp.norm (all2.map runOf))/\T2 w'/\Fr S W2 w')
 below:Below w0.heap.size w0 W
 b0w:w0.heap.size<=b0
 hb0:b0<=W.heap.size
theorem cvst_fin{k:Nat}(h:CatF w0 f0 d0 3000 N t u c disk fl P 66 40 k b0 R0 vs W)(hkk:k<=40)(hkin:∀z,z∈kl ↔ ∃x∈vs,(x.root:Int)=z)(hkrs:∀z∈kl,z∈rs)(hvl:vs.length<=i)(hkl:kl.length<=i)(hb0w:w0.heap.size<=b0)(hvs:VersOf disk rs)(hi:i<=8)(hR:R0=280000):CvFin w0 f0 d0 t u b0 kl W:=by
 have hbel:=h.g.below
 have hhb:=h.g.hb
 have hok:=h.ok
 obtain⟨⟨⟨F,a,e1,e2,e3,e4,e5,rfl,rfl,⟨root,σ,ids,tok,hst,htk,hpg⟩,hF,hlow,hb0,hbel'⟩,g2,g3⟩,hc,hcb,_⟩:=h
 have hSD:∀x,SD F a.t a.m x->w0.heap.size<=x/\x<b0:=fun x hx=>⟨hF x (.inl hx),hlow x (.inl hx)⟩
 obtain⟨hnv,hps⟩:=hst.newv
 have hfw:=ver_few hnv
 have hvv:VersOf (σ.view disk) (root::rs):=fun x hx=>by
  rcases List.mem_cons.1 hx with rfl | hx
  ·exact⟨_,tok,ids,hnv,by omega⟩
  ·obtain⟨es,tk,is,q1,q2⟩:=hvs x hx
   exact⟨es,tk,is,(hst.oldv q1).1,q2⟩
 obtain⟨g,hg⟩:=hvv.g
 have hsub1:∀x∈root::vs.map (fun v=>(v.root:Int)),x∈root::rs:=fun x hx=>by
  rcases List.mem_cons.1 hx with rfl | hx
  ·exact List.mem_cons_self
  ·obtain⟨v,hv,e⟩:=List.mem_map.1 hx
   exact List.mem_cons_of_mem _ (hkrs x ((hkin x).2 ⟨v,hv,e⟩))
 have hsub2:∀x∈kl++ [root],x∈root::rs:=fun x hx=>by
  rcases List.mem_append.1 hx with hx | hx
  ·exact List.mem_cons_of_mem _ (hkrs x hx)
  ·rw[List.mem_singleton.1 hx];exact List.mem_cons_self
 obtain⟨ha1,hn1⟩:=hg.all_ hsub1
 obtain⟨ha2,hn2⟩:=hg.all_ hsub2
 have hl1:(root::vs.map (fun v=>(v.root:Int))).length<=9:=by simp;omega
 have hl2:(kl++ [root]).length<=9:=by simp;omega
 have hmem:∀x,x∈root::vs.map (fun v=>(v.root:Int)) ↔ x∈kl++ [root]:=fun x=>by
  rw[List.mem_cons,List.mem_append,List.mem_singleton,hkin,List.mem_map]
  exact⟨fun h=>h.symm,fun h=>h.symm⟩
 have hpos:∀ {all:List Int} {l:List Int},AllOf (σ.view disk) l all->∀x∈all,0<x:=fun ha x hx=>by
  obtain⟨_,es,tk,is,_,q2,q3,_⟩:=ha.inn x hx
  obtain⟨y,hy⟩:=q2.some_ x q3
  exact tmd_pos hst.on.tm hy
 have hnorm:Rp.norm (((root::vs.map (fun v=>(v.root:Int))).flatMap g).map runOf)=Rp.norm (((kl++ [root]).flatMap g).map runOf):=norm_runs fun x=>by
  rw[List.mem_flatMap,List.mem_flatMap]
  exact⟨fun⟨y,h1,h2⟩=>⟨y,(hmem y).1 h1,h2⟩,fun⟨y,h1,h2⟩=>⟨y,(hmem y).2 h1,h2⟩⟩
 have hp1:=hpos ha1
 have hp2:=hpos ha2
 generalize (root::vs.map (fun v=>(v.root:Int))).flatMap g=all1 at*
 generalize (kl++ [root]).flatMap g=all2 at*
 refine⟨⟨SD F a.t a.m,root,all1,all2,TMd F a.B a.t a.m 3000 (Rp.minus [(2,P-1)] fl) disk (200000+2*all2.length) σ,TMd F a.B a.t a.m 3000 (Rp.minus [(2,P-1)] fl) disk 200000 σ,hst.on.self,by omega,by omega,hnorm,hSD,fun W1 hb=> ?_,fun W2 A k hT hls=> ?_⟩,hbel,hb0w,hhb⟩
 ·have hT1:=hst.mach.below (hst.on.tm) hb
  refine mvers_any vs hok (by omega) (200000+2*all2.length+2*all1.length+2*ids.length) (r:=200000+2*all2.length) (hT1.less (by omega)) hst.hd (fun u W' hon=> ?_) ha1 hp1 (by omega)
  have:=scan_ver hst.mach hnv (tmd_view0 hst.on.tm) (by omega) ⟨#[86]⟩ ⟨#[87]⟩ (200000+2*all2.length+2*all1.length) W' hon
  rwa [Ct.scan_vers]at this
 ·refine(tmd_marks (r:=200000) hT hst.hd ha2 hp2 ⟨by omega,by omega⟩ A k hls).mono ?_
  rintro e w' ⟨v,rfl,h1,h2,h3⟩
  exact⟨v,rfl,h1,h2,h3.more fun x hx=> .inr (.inr hx)⟩
end
end Go.Proofs.YtjoiajmbfbjnnaaGreatDoor
namespace Go.Proofs.YtjoiajmbfbjnnaaGreatDoor
open Go.RowKit Go.ChangeShapes Go.WideShapes Go.Deep
def boolE:Enc Bool:=⟨fun x=> [.bool x],1,fun _=>rfl,by decide,fun x u hu=>by simp at hu;subst hu;rfl⟩
theorem open_boolsE{H:Type}{enc:TypeId × Value->H}{W:World}{A:Option Addr}{len cap:Nat}{d:DataW H}{p:List MemPlace}(h:DataW.Trod enc Tryz.prog W 0 (fun _=>true) true 51 (.slice A len cap) d p):
  ∃l:List Bool,l.length=len/\LS boolE W W.heap.size A l:=by
 obtain⟨fuel,hf⟩:=h
 rcases open_bools Tryz.underlying51 Tryz.underlying4 (by kernel_rfl) hf with⟨hcs,_⟩ | ⟨a,len',cap',f,hcs,_,hl,_,_,hi⟩
 ·simp[Value.cells]at hcs
  obtain⟨rfl,rfl,rfl⟩:=hcs
  exact⟨[],rfl,LS.nil_⟩
 ·simp[Value.cells]at hcs
  obtain⟨rfl,rfl,rfl⟩:=hcs
  refine⟨(List.range len).map f,by simp,⟨boolE.cells_length _,fun hpos=>⟨a,rfl, ?_, ?_⟩⟩⟩
  ·have:=hi 0 (by simp at hpos;omega)
   have hb:=World.block_lt_of_cell? W _ this
   rwa [block_of_add]at hb
  ·intro j u hu
   have hjl:j<len:=by
    have:=(List.getElem?_eq_some_iff.1 hu).1
    rw[boolE.cells_length]at this;simpa[boolE]using this
   have h0:=boolE.cells_at ((List.range len).map f) j (by simp;omega) 0 (by decide)
   have e:j*boolE.size+0=j:=by show j*1+0=j;omega
   rw[e,hu]at h0
   simp only[List.getElem_map,List.getElem_range]at h0
   exact(hi j (by omega)).trans (show some (Value.bool (f j))=some u from h0.symm)
end Go.Proofs.YtjoiajmbfbjnnaaGreatDoor
namespace Go.Proofs.YtjoiajmbfbjnnaaGreatDoor
open Go.RowKit Go.Shelf Go.Maps
theorem mvl_main(A:Option Addr)(c:Nat)(rl:List Sl)(fl:List (List Ent))(Ab:Option Addr)(cb:Nat)(bl:List Bool)(w:World)(hr:LS slE w w.heap.size A rl)(hlen:fl.length=rl.length)(hx:∀i (h1:i<rl.length) (h2:i<fl.length),fl[i].length=rl[i].2.1/\LS entE w w.heap.size rl[i].1 fl[i])(hp:LS boolE w w.heap.size Ab bl)(hT:HT w):
  Calls Tryz.prog 12 #[.slice A rl.length c, .slice Ab bl.length cb] w (TrueEnd21 w):=by
 have HW:=Lib.hid (works21_any w hT)
 have HOV:=Lib.hid (fun W (hb:Below w.heap.size w W)=>over21_any A c rl fl W ((hr.below hb).more hb.size) hlen (fun i h1 h2=>⟨(hx i h1 h2).1,((hx i h1 h2).2.below hb).more hb.size⟩))
 have HRS:=Lib.hid hr
 have HRL:=Lib.hid hx
 have HHT:=Lib.hid hT
 have HPL:=Lib.hid hp
 have HD:=Lib.hid (fun W=>dfresh_any 3000 W)
 rw[show diskN 3000=3000 by decide]at HD
 clear hr hx hT hp
 go_enter Tryz.func12,Tryz.ntmps12
 go_wp2_with fail
 refine Calls.mono HW.out ?_
 rintro e w1 ⟨rfl,b1⟩
 have HB:=Lib.hid b1
 clear b1 HW
 go_wp2_with fail
 refine(HOV.out _ HB.out).mono ?_
 rintro e w1' ⟨b,rfl,hw1,hbf⟩
 subst hw1
 cases b with
 |true=>
  go_wp2
  go_ret
  exact⟨rfl,HB.out⟩
 |false=>
  obtain⟨h8,h60⟩:=hbf rfl
  have H60:=Lib.hid h60
  clear hbf h60 HOV
  by_cases h20:(20:Int)<(bl.length:Nat)
  ·go_wp2
   go_ret
   exact⟨rfl,HB.out⟩
  go_wp2_with fail
  refine(HD.out _).mono ?_
  rintro e w2 ⟨d,rfl,hd,b2⟩
  have HFF:=Lib.hid (ffresh_any hd b2.size)
  have HB2:=Lib.hid (HB.out.trans (b2.mono HB.out.size))
  have HZ2:=Lib.hid b2.size
  clear hd b2 HD
  go_wp2_with fail
  refine HFF.out.mono ?_
  rintro e w3 ⟨f,rfl,hf,b3⟩
  have hB3:=HB2.out.trans (b3.mono HB2.out.size)
  have HG:=Lib.hid (grown21_any A c rl fl w w3 f d (stg_start (by decide) (by decide) hf (HHT.out.below hB3 HHT.out.1) HB.out.size HHT.out.1 (Nat.le_trans HZ2.out b3.size) hB3 (by decide)) HRS.out hlen HRL.out h8 H60.out HHT.out.1)
  clear hf b3 hB3 HFF HZ2 HB2 HB HRS HRL H60 HHT h20
  go_wp2_with fail
  refine Calls.mono HG.out ?_
  rintro e w4 ⟨Ar,cr,rs,t,disk,frl,P,N,rfl,hbg,hN,hvs,hlr,hP,hrow⟩
  have hrl8:rs.length<=8:=by omega
  have hrange:∀x∈rs,0<=x/\x<=16384:=fun x hx=>by
   obtain⟨es,tk,is,q1,q2⟩:=hvs x hx
   rcases q1 with⟨rfl,_,_⟩ | ⟨hh,s,rfl,rfl,rfl,q4,q5,q6,q8⟩
   ·omega
   ·obtain⟨y,y1,_⟩:=Mk.tr_kids q5 s.id (Tp.tr_id q5)
    have:=(hbg.mk_.view y1).2.1
    omega
  have HRG:=Lib.hid hrange
  have HVS:=Lib.hid hvs
  have HROW:=Lib.hid hrow
  have HNT:=Lib.hid (begF_tree (D:=66) (T:=0) (K:=40) (R0:=280000) (root:=0) (es:= []) (tok:=0) (ids:= []) (hbg.less (by omega)) (by decide) (Tp.VerAt.none_ _ _) (Nat.le_refl _) (by decide) (by omega))
  clear hbg hvs hrow HG hlr hrange
  go_wp2_with fail
  refine HNT.out.mono ?_
  rintro e w5 ⟨u,rfl,hg,hb5,hu⟩
  have hB5:=hg.below
  have b6:Below w5.heap.size w5 (w5.alloc (.cells #[.pointer (some ⟨u,0,none⟩)] 186)):=(Below.refl _ w5).alloc (Nat.le_refl _) _
  have HS0:Hid (CvSt w f d N t u w5.heap.size disk frl P w5.heap.size 280000 rs 0 [] Ar cr none 0 [] (w5.alloc (.cells #[.pointer (some ⟨u,0,none⟩)] 186))):=Lib.hid ⟨⟨hg.up b6,Blk.new _ _ _,Nat.le_refl _,fun x hx=>absurd hx List.not_mem_nil⟩,fun x hx=>absurd hx List.not_mem_nil,fun x hx=>absurd hx List.not_mem_nil,fun z=>by simp,fun z hz=>absurd hz List.not_mem_nil,Nat.le_refl _,Nat.le_refl _,(HROW.out.below hb5).below b6,LO.nil_ _ _,hB5.size⟩
  have hob:∀g,(Value.slice Ar rs.length cr).ownBlock=some g->g<w5.heap.size:=fun g hg=>(World.ownsRow.lt (HROW.out.below hb5) g hg).2
  have hcat:=cnew_any u w5
  clear hg hb5 hu hB5 b6 HNT HROW
  go_wp2_with fail
  refine hcat.mono ?_
  rintro e w6 ⟨rfl,rfl⟩
  generalize w5.heap.size=cc at*
  have HOB:=Lib.hid hob
  generalize (w5.alloc (.cells #[.pointer (some ⟨u,0,none⟩)] 186))=w6 at*
  clear hcat hob
  go_wp2
  go_loopg [13,14] rs.length (fun gg s13 s14 wr=>∃ (i:Nat) (vs:List Ct.Ver) (Ak:Option Addr) (ck:Nat) (kl:List Int),s13= .slice Ak kl.length ck/\s14= .int .i64 (i:Nat)/\i<=rs.length/\rs.length-i<=gg/\Hid (CvSt w f d N t u cc disk frl P cc 280000 rs i vs Ar cr Ak ck kl wr))
  case atStart=>exact⟨0, [],none,0, [],rfl,rfl,Nat.zero_le _,by omega,HS0⟩
  case round=>
   clear HS0
   obtain⟨i,vs,Ak,ck,kl,rfl,rfl,hil,hig,HS⟩:=hrel
   have hwi:IntKind.i64.wrap ((i:Int)+1)=(i:Int)+1:=IntWalk.i64_in _ (by omega)
   by_cases hi:i<rs.length
   ·have hii:(i:Int)<(rs.length:Nat):=by omega
    obtain⟨bb,oo,rfl,hbb,g0⟩:=HS.out.rowr.ls.int hi
    have hmem:=List.getElem_mem hi
    have hrg:=HRG.out _ hmem
    generalize hzz:rs[i]=z at*
    obtain⟨zn,rfl⟩:∃zn:Nat,z=(zn:Nat):=⟨z.toNat,by omega⟩
    have HME:=Lib.hid hmem
    have HZZ:=Lib.hid hzz
    have HP:=Lib.hid (cvst_put HS.out (zn:=zn) (by omega) (by omega))
    clear hmem hzz
    go_wp2_with fail
    refine HP.out.mono ?_
    rintro e w7 ⟨rfl,vs',hmid⟩
    have HMID:=Lib.hid hmid
    have HB7:=Lib.hid hmid.cat.g.below
    have hz7:=hmid.cat.g.hb
    have hkk:kl.length<=i:=hmid.klen
    obtain⟨bb2,oo2,ebb,hbb2,g0⟩:=hmid.rowr.ls.int hi
    injection ebb with ebb
    injection ebb with e1 e2
    subst e1 e2
    rw[HZZ.out]at g0
    have hraw:=LO.raw hmid.rowk rfl (show intE.size=1 from rfl)
    have HAPP:Hid (∀ (A9:Option Addr) (c9:Nat) (w9:World),w9.ownsRow cc 3 1 (.slice A9 (kl.length+1) c9) (kl.length+1) (intE.cells kl++ [.int .i64 zn])->w7.grownBy w9 (Value.slice Ak kl.length ck).ownBlock->CvSt w f d N t u cc disk frl P cc 280000 rs (i+1) vs' (some ⟨bb,oo,none⟩) cr A9 c9 (kl++ [(zn:Int)]) w9):=Lib.hid fun A9 c9 w9 ho hg=>by
     have hm:=HMID.out
     have hsn:=LO.snoc (E:=intE) (x:=(zn:Int)) (l:=kl) (n:=kl.length) rfl rfl rfl ho
     refine cvmid_keep hm HME.out ?_ (hm.rowr.frB (Fr.of_grown hg) fun g hgo hk=> ?_) hg
     ·rw[List.length_append]
      exact hsn
     ·have h1:=HOB.out g hgo
      have h2:=(World.ownsRow.lt hm.rowk g hk).1
      omega
    have HDR:=Lib.hid (cvmid_drop hmid (by omega))
    clear hmid HP HS HME HZZ
    by_cases hib:i<bl.length
    ·have hib2:(i:Int)<(bl.length:Nat):=by omega
     obtain⟨bp,op,rfl,hbp,hcp⟩:=HPL.out.at_ hib
     have p1:w7.cell? ⟨bp,op+i,none⟩=some (.bool bl[i]):=by
      have p0:=(HB7.out.cell (p:=⟨bp,op+i*boolE.size+0,none⟩) hbp).trans (hcp 0 (by decide))
      rw[show op+i*boolE.size+0=op+i from by show op+i*1+0=op+i;omega]at p0
      exact p0
     clear hcp HB7
     cases hbi:bl[i]with
     |true=>
      rw[hbi]at p1
      clear HAPP hraw g0
      go_wp2_with fail
      refine HDR.out.mono ?_
      rintro e w9 ⟨rfl,vs2,hst⟩
      have HS9:=Lib.hid hst
      clear hst HDR HMID p1 hbp
      go_wp2
      go_roundg (rs.length-(i+1))
      case measure=>omega
      case rel=>exact⟨i+1,vs2,Ak,ck,kl,rfl,by go_num,by omega,Nat.le_refl _,HS9⟩
     |false=>
      rw[hbi]at p1
      clear HDR HMID
      go_wp2_with (at_builtin;refine wpList_app1 rfl _ _ 29 rfl eiInt Tryz.underlying29 rfl (by decide) rfl hraw rfl (by simp) rfl (by simp[Value.oneCell']) (by unfold maxLen;omega) (by omega) hz7 ?_;intro v' w9 hown' hgrow hbel hob9 _)
      obtain⟨A9,c9,rfl⟩:=own_form hown'
      have HS9:=Lib.hid (HAPP.out A9 c9 w9 hown' hgrow)
      have hkl9:(kl++ [(zn:Int)]).length=kl.length+1:=by simp
      clear hown' hgrow hbel hob9 HAPP hraw p1 g0
      go_wp2
      go_roundg (rs.length-(i+1))
      case measure=>omega
      case rel=>exact⟨i+1,vs',A9,c9,kl++ [(zn:Int)],by rw[hkl9],by go_num,by omega,Nat.le_refl _,HS9⟩
    ·have hib2:¬ (i:Int)<(bl.length:Nat):=by omega
     clear HDR HMID HB7
     go_wp2_with (at_builtin;refine wpList_app1 rfl _ _ 29 rfl eiInt Tryz.underlying29 rfl (by decide) rfl hraw rfl (by simp) rfl (by simp[Value.oneCell']) (by unfold maxLen;omega) (by omega) hz7 ?_;intro v' w9 hown' hgrow hbel hob9 _)
     obtain⟨A9,c9,rfl⟩:=own_form hown'
     have HS9:=Lib.hid (HAPP.out A9 c9 w9 hown' hgrow)
     have hkl9:(kl++ [(zn:Int)]).length=kl.length+1:=by simp
     clear hown' hgrow hbel hob9 HAPP hraw g0
     go_wp2
     go_roundg (rs.length-(i+1))
     case measure=>omega
     case rel=>exact⟨i+1,vs',A9,c9,kl++ [(zn:Int)],by rw[hkl9],by go_num,by omega,Nat.le_refl _,HS9⟩
   ·obtain rfl:i=rs.length:=by omega
    have hii:¬ (rs.length:Int)<(rs.length:Nat):=by omega
    have hst:=HS.out
    have hkk:kl.length<=rs.length:=hst.klen
    obtain⟨⟨_,root,_,_,_,_,hB,_⟩,_⟩:=cvst_fin hst.cat (by omega) hst.kin hst.krs hst.vlen hst.klen hst.b0w HVS.out (by omega) rfl
    have HR1:=Lib.hid (troot_any u root 0 wr hB)
    have hraw:=LO.raw hst.rowk rfl (show intE.size=1 from rfl)
    have hz7:=hst.cat.g.hb
    have HFIN:Hid (∀ (A9:Option Addr) (c9:Nat) (w9:World),w9.ownsRow cc 3 1 (.slice A9 (kl.length+1) c9) (kl.length+1) (intE.cells kl++ [.int .i64 root])->wr.grownBy w9 (Value.slice Ak kl.length ck).ownBlock->CvFin w f d t u cc kl w9/\Blk w9 u 140 (TreeV t root 0)/\LO intE 3 w9 cc (.slice A9 (kl.length+1) c9) (kl++ [root])):=Lib.hid fun A9 c9 w9 ho hg=>by
     have hsn:=LO.snoc (E:=intE) (x:=(root:Int)) (l:=kl) (n:=kl.length) rfl rfl rfl ho
     refine⟨cvst_fin (hst.cat.row hst.rowk (Nat.le_refl _) hst.b0w hg) (by omega) hst.kin hst.krs hst.vlen hst.klen hst.b0w HVS.out (by omega) rfl,Blk.grown hB hg (fun e=> ?_),hsn⟩
     obtain⟨cs,hcs⟩:=own_obj hst.rowk e.symm
     exact Blk.ne_ hB hcs (by decide) rfl
    clear hst hB HS HRG HVS HOB HPL
    go_wp2_with fail
    refine HR1.out.mono ?_
    rintro e _ ⟨rfl,rfl⟩
    clear HR1
    go_wp2_with (first | (go_at_call 29;fail) | (at_builtin;refine wpList_app1 rfl _ _ 29 rfl eiInt Tryz.underlying29 rfl (by decide) rfl hraw rfl (by simp) rfl (by simp[Value.oneCell']) (by unfold maxLen;omega) (by omega) hz7 ?_;intro v' w9 hown' hgrow hbel hob9 _))
    obtain⟨A9,c9,rfl⟩:=own_form hown'
    obtain⟨⟨⟨S,root2,all1,all2,T1,T2,hB,hl1,hl2,hnorm,hSD,hMV,hMT⟩,hbl,hb0w,hhb⟩,hB2,hro⟩:=HFIN.out A9 c9 w9 hown' hgrow
    have hrr:root2=root:=by
     have h1:=hB.cell 1
     have h2:=hB2.cell 1
     have h3:=h1.symm.trans h2
     injection h3 with h3
     injection h3
    subst hrr
    have HR2:=Lib.hid (troot_any u root2 0 w9 hB)
    have HMV:=Lib.hid (hMV w9 (Below.refl _ _))
    have HMT:=Lib.hid hMT
    have HN:=Lib.hid hnorm
    have HSD:=Lib.hid hSD
    have HBL:=Lib.hid hbl
    have HRO:=Lib.hid hro
    clear hown' hgrow hbel hob9 hraw hz7 HFIN hB hB2 hMV hMT hnorm hSD hbl hro
    go_wp2_with fail
    refine HR2.out.mono ?_
    rintro e _ ⟨rfl,rfl⟩
    clear HR2
    go_wp2_with fail
    refine HMV.out.mono ?_
    rintro e w10 ⟨v1,rfl,hown1,ht1,hf1⟩
    obtain⟨A1,c1,rfl⟩:=hown1.form
    have hro10:=HRO.out.fr hf1 (fun k hk=>(HSD.out k hk).2)
    have hT:=HMT.out w10 A9 c9 ht1 hro10.ls
    rw[show(kl++ [root2]).length=kl.length+1 from by simp]at hT
    have HT2:=Lib.hid hT
    have HO1:=Lib.hid hown1
    have HB10:=Lib.hid (HBL.out.trans (hf1.low HBL.out.size (fun k hk=>(HSD.out k hk).1)))
    have hz10:=hf1.size
    have hn1:=norm_len (all1.map runOf)
    rw[List.length_map]at hn1
    rw[<-HN.out]at HT2
    generalize Rp.norm (all1.map runOf)=L at*
    clear hown1 ht1 hf1 hro10 hT HMV HMT HRO HBL HN
    go_wp2_with fail
    refine HT2.out.mono ?_
    rintro e w11 ⟨v2,rfl,hown2,ht2,hf2⟩
    obtain⟨A2,c2,rfl⟩:=hown2.form
    have HO1:=Lib.hid (HO1.out.frS hf2 (fun k hk=>by have:=(HSD.out k hk).2;omega))
    have HSM:=Lib.hid (same_yes A1 A2 L c1 c2 w11 HO1.out.rs hown2.rs (by omega))
    have HB11:=Lib.hid (HB10.out.trans (hf2.low HB10.out.size (fun k hk=>(HSD.out k hk).1)))
    clear hown2 ht2 hf2 HT2 HO1 HB10 HSD
    go_wp2_with fail
    refine HSM.out.mono ?_
    rintro e w12 ⟨rfl,b12⟩
    have HB12:=Lib.hid (HB11.out.trans (b12.mono HB11.out.size))
    clear b12 HB11 HSM
    go_wp2
    go_ret
    exact⟨rfl,HB12.out⟩
end Go.Proofs.YtjoiajmbfbjnnaaGreatDoor
namespace Go.Proofs.YtjoiajmbfbjnnaaGreatDoor
open Go.ChangeShapes Go.WideShapes Go.ChangeAt Go.RowKit
def laid3:List (String × DataW Unit):= [("rootstock/crc.halves",Rows.laid_rootstock_crc_halves),("unicode/utf8.acceptRanges",Rows.laid_unicode_utf8_acceptRanges),("unicode/utf8.first",Rows.laid_unicode_utf8_first)]
theorem halves_hv:(Rows.laid_rootstock_crc_halves:DataW Unit)= .agg (Cc.hv.map fun n:Nat=> .lit (.int .u32 (n:Int))):=by kernel_rfl
theorem ht_of{W:World}(h:laidMetH Tryz.prog laid3 W):HT W:=by
 rw[MakeChecks.laidMetH_plain _ _ _ (by kernel_rfl)]at h
 obtain⟨ps,⟨g,t,cs,fuel,p,q,hg,ht,hv,hd,_,_⟩,_⟩:=h
 obtain rfl:=Option.some.inj ((show Tryz.prog.globalNamed "rootstock/crc.halves" =some 0 by kernel_rfl).symm.trans hg)
 obtain rfl:=Option.some.inj ((show(Tryz.prog.globals[0]?).map (·.type)=some 326by kernel_rfl).symm.trans ht)
 obtain⟨xs,m,_,ex,_,hl,hel⟩:=DataW.trod_array Tryz.underlying326 hd
 have hc:∀r,r<16->W.cell? ⟨0,r,none⟩=some (.int .u32 ((Cc.hv.getD r 0:Nat):Int)):=by
  intro r hr
  have c5:Tryz.prog.cellsOf 275=1:=by kernel_rfl
  have hE:=hel r hr
  rw[c5,Nat.mul_one,List.getElem?_eq_getElem (by omega)]at hE
  obtain⟨z,e1,e2,_⟩:=DataW.trod_int Tryz.underlying275 hE
  have hlen:Cc.hv.length=16:=by decide
  rw[halves_hv]at ex
  have e3:(xs.map (·.1))=Cc.hv.map fun n:Nat=>(DataW.lit (.int .u32 (n:Int)):DataW Unit):=(DataW.agg.inj (Prod.mk.inj ex).1).symm
  have e4:(xs.map (·.1))[r]? =(Cc.hv.map fun n:Nat=>(DataW.lit (.int .u32 (n:Int)):DataW Unit))[r]? :=by rw[e3]
  rw[List.getElem?_map,List.getElem?_map,List.getElem?_eq_getElem (by omega:r<xs.length),List.getElem?_eq_getElem (by omega:r<Cc.hv.length),e2]at e4
  have hz:z=((Cc.hv.getD r 0:Nat):Int):=by
   simp only[Option.map_some,Option.some.injEq,DataW.lit.injEq,Lit.int.injEq,true_and]at e4
   rw[e4,List.getD,List.getElem?_eq_getElem (by omega:r<Cc.hv.length)];rfl
  rw[World.var?_cell hg hv r, <-hz]
  have:cs.toList[r]? =some (.int .u32 z):=by
   have h0:((cs.toList.drop r).take 1)[0]? =some (.int .u32 z):=by rw[e1];rfl
   simpa using h0
  simpa using this
 exact⟨World.block_lt_of_cell? W _ (hc 0 (by decide)),hc⟩
end Go.Proofs.YtjoiajmbfbjnnaaGreatDoor
