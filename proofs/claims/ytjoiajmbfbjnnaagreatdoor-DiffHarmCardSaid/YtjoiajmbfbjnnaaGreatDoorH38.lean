/- Part of this proof. -/
import Derived.Deep.Slices
import Derived.Deep.Fields
import Derived.ChangeSame
import Derived.ProofKit
import Derived.LaidMore
import Derived.Lay
import Derived.OpenShut
import Derived.Test.YtjoiajmbfbjnnaaGreatDoorH37
import Derived.Test.YtjoiajmbfbjnnaaGreatDoorRows
set_option maxRecDepth 100000
set_option maxHeartbeats 8000000
namespace Go.Proofs.YtjoiajmbfbjnnaaGreatDoor
open Go.RowKit Go.Shelf Go.Maps
theorem DkC.raw{D:Dk}{n:Nat}{c:Int->Option (Nat × Bs)}(h:DkC D n c){id:Int}(hid:noPage n id=false){t:Bs}(hb:BadPg id t):
  D.wroteE=0/\D.wrote id t=D.put id t/\DkC (D.put id t) n (fun j=>if j=id then none else c j):=by
 have hl:=h.ok.left
 have hb2:¬id<2/\¬ (n:Int)<=id:=by simpa[noPage]using hid
 have hsz:=h.ok.size
 have hself:(D.put id t).get id=t:=by unfold Dk.get Dk.put;simp
 have hoth:∀ {i:Int},i≠id->(D.put id t).get i=D.get i:=fun {i} e=>by unfold Dk.get Dk.put;simp[e]
 refine⟨by unfold Dk.wroteE;rw[hl,if_neg (by decide)],by unfold Dk.wrote;rw[hl,if_neg (by decide),if_neg (by decide)],⟨hsz,hl,h.ok.down,fun j hj=> ?_⟩,⟨h.well.sure,fun x hx=> ?_⟩,fun i hi hn=> ?_⟩
 ·by_cases e:j=id
  ·subst e
   exact .inl ⟨by rw[hself];exact hb,by rw[if_pos rfl]⟩
  ·have hq:=h.ok.page j hj
   unfold PageIs at hq ⊢
   rw[hoth e,if_neg e]
   exact hq
 ·rcases List.mem_append.1 (show x∈D.pend++ [(id,t)]from hx)with hx | hx
  ·exact h.well.pend x hx
  ·obtain rfl:=List.mem_singleton.1 hx
   exact⟨hb.1,by show 0<=id;omega,by show id<(D.sure.length:Int);omega⟩
 ·show(D.put id t).get i=(doneL D.sure (D.pend++ [(id,t)])).getD i.toNat []
  rw[doneL_snoc]
  have hs:=h.sees i hi hn
  by_cases e:i=id
  ·subst e
   rw[hself,List.getD_eq_getElem?_getD,List.getElem?_set_self (by rw[doneL_len];omega)]
   rfl
  ·rw[hoth e,hs,List.getD_eq_getElem?_getD,List.getD_eq_getElem?_getD,List.getElem?_set_ne (by show id.toNat≠i.toNat;omega)]
theorem ht_low{w w':World}{B:Nat}(hT:HT w)(hB:0<B)(h:Below B w w'):HT w':=by
 have hb:=h.mono (show 1<=B from hB)
 refine⟨Nat.lt_of_lt_of_le hT.1 hb.size,fun i hi=> ?_⟩
 rw[<-hT.2 i hi]
 exact hb.cell (p:=⟨0,i,none⟩) (Nat.zero_lt_one)
def hole(disk:Tp.Disk)(i:Int):Tp.Disk:=fun j=>if j=i then none else disk j
section
variable {F F':FFile}{n N r:Nat}{disk:Tp.Disk}{w w':World}{i:Int}
structure RawE(F:FFile)(n:Nat)(disk:Tp.Disk)(i:Int)(N r:Nat)(w:World)(F':FFile)(w':World):Prop where
 same:F'.B=F.B/\F'.f=F.f/\F'.d=F.d/\F'.s=F.s/\F'.m=F.m/\F'.k=F.k+1
 ready:FReady F' n (hole disk i) (N+1) r w'
 bad:PageIs F'.D i none
 below:Below F.B w w'
 kept:Kept w w'
 oth:OthM F.m w w'
theorem fr_raw(h:FReady F n disk N r w)(hk:F.k+1000<maxLen)(hN:N<1000000)(hi:2<=i/\i<n)(t:Bs)(hb:BadPg i t):
  Calls Tryz.prog 39 #[.pointer (some ⟨F.d,0,none⟩), .int .i64 i,str t] w fun e w'=>e= .returned (.int .i64 0)/\∃F',RawE F n disk i N r w F' w':=by
 obtain⟨⟨hn,⟨c,c1,c2⟩,hw,hp⟩,⟨R,r1,r2,hA⟩,hT,b0,bw⟩:=h
 have hno:noPage n i=false:=by unfold noPage;simp;omega
 obtain⟨e1,e2,e3⟩:=(c1.rd R).raw hno hb
 have hat:({ F.D with reads:=R } :Dk).at_ i=0:=by rw[at_eq (by rw[(c1.rd R).ok.size];exact hno),(c1.rd R).ok.down];rfl
 refine(write_ok2 hA.dkat i t hat hb.1 (by omega) (by exact(show IdOk i by unfold IdOk;omega).wf) (by show 0<=F.D.writes/\F.D.writes<_;omega) (by show F.D.left<=_;rw[c1.ok.left];decide) (by show F.D.pend.length<=_;omega) bw).mono ?_
 rintro e w' ⟨rfl,⟨s,m,pv,Dm,pv',Dm',h1,h2,h3⟩,h4,h5⟩
 rw[e2]at h2
 have hcs:dkCells s m pv { F.D with reads:=R } =dkCells F.s F.m F.pv { F.D with reads:=R } :=by
  have:=h1.self.symm.trans hA.disk.self
  injection this with this
  injection this
 unfold dkCells at hcs
 simp only[Array.mk.injEq,List.cons.injEq,Value.slice.injEq,Value.map.injEq,Option.some.injEq,Addr.mk.injEq,and_true]at hcs
 obtain⟨rfl,rfl,rfl⟩:=hcs
 refine⟨by rw[e1], { F with k:=F.k+1,pv:=pv',Dm:=Dm',D:=({ F.D with reads:=R } :Dk).put i t },⟨rfl,rfl,rfl,rfl,rfl,rfl⟩,⟨⟨hn,⟨_,e3,fun id x hx=> ?_⟩, ?_, ?_⟩,⟨R,r1,r2, ?_⟩,ht_low hT b0 h4,b0,Nat.le_trans bw h4.size⟩, ?_,h4,h5,h3⟩
 ·unfold hole at hx
  split at hx
  ·cases hx
  ·rename_i hne
   rw[if_neg hne]
   exact c2 id x hx
 ·show 0<=F.D.writes+1/\F.D.writes+1<=((N+1:Nat):Int)
  omega
 ·show(F.D.pend++ [(i,t)]).length<=N+1
  rw[List.length_append]
  simp only[List.length_cons,List.length_nil]
  omega
 ·exact⟨hA.le,h5 _ _ _ hA.self (by decide) (by decide),h2⟩
 ·have:=e3.ok.page i hno
  rwa [if_pos rfl]at this
theorem RawE.own{base:Nat}{v:Value}{l:List Run}(h:RawE F n disk i N r w F' w')(hl:Own w base v l):Own w' base v l:=by
 rcases hl with⟨h4,h5 | ⟨g,cap,cur,hv,hb,hh,q⟩⟩
 ·exact⟨h4, .inl h5⟩
 ·exact⟨h4, .inr ⟨g,cap,cur,hv,hb,h.kept g 106 _ hh (by decide) (by decide),q⟩⟩
theorem RawE.lo{α:Type}{E:Enc α}{ty:TypeId}{base:Nat}{v:Value}{l:List α}(h:RawE F n disk i N r w F' w')(hl:LO E ty w base v l)(h1:ty≠132)(h2:ty≠168):LO E ty w' base v l:=hl.kept h.kept h1 h2
theorem RawE.txn{t m k:Nat}{free:List Run}{pages:Int}{D:DataW Value}(h:RawE F n disk i N r w F' w')(ht:Txn w t m F.f n free pages k D)(hm:m≠F.m):Txn w' t m F.f n free pages k D:=by
 obtain⟨h1,⟨v,h2,h3⟩,es,c,h4,h5⟩:=ht
 obtain⟨R',r1,r2,r3⟩:=h.ready.file
 have hs:=r3.fileOf
 obtain⟨cc,c1,c2⟩:=h.ready.on.c
 rw[c1.ok.size,h.same.2.1]at hs
 exact⟨hs,⟨v,h.kept t _ _ h2 (by decide) (by decide),h.own h3⟩,es,c,h.oth m _ h4 rfl hm,h5⟩
end
section
variable {w0 W W':World}{f0 d0 n N r t:Nat}{disk:Tp.Disk}{P P' root i:Int}{es:List Ent}{tok:Nat}
structure DonD(w0:World)(f0 d0 n N r t:Nat)(disk:Tp.Disk)(P:Int)(W:World):Prop where
 ex:∃ (F:FFile) (m k:Nat) (D:DataW Value) (fl:List Run),F.f=f0/\F.d=d0/\F.k+1000<maxLen/\FReady F n disk N r W/\w0.heap.size<=F.B/\Txn W t m F.f n fl P k D/\m≠F.m
 low:LowD disk [] P/\∀x y,disk x=some y->2<=x/\x<=16384
 p:2<=P/\P<=n
 below:Below w0.heap.size w0 W
theorem DonD.below_(h:DonD w0 f0 d0 n N r t disk P W)(hb:Below W.heap.size W W'):DonD w0 f0 d0 n N r t disk P W':=by
 obtain⟨⟨F,m,k,D,fl,e1,e2,e3,e4,e5,e6,e7⟩,h1,h2,h3⟩:=h
 exact⟨⟨F,m,k,D,fl,e1,e2,e3,e4.below hb,e5,e6.below hb,e7⟩,h1,h2,h3.trans (hb.mono h3.size)⟩
def FlH(w0:World)(f0 d0 n N r t:Nat)(disk:Tp.Disk)(P' root:Int)(es:List Ent)(tok:Nat)(W:World)(e:Ending)(w':World):Prop:=
 e= .returned (.int .i64 0)/\∃disk',DonD w0 f0 d0 n (N+600) r t disk' P' w'/\(∃ids,Tp.VerAt disk' root es tok ids)/\
  (∀ (root':Int) (es':List Ent) (tok':Nat) (ids':List Int),Tp.VerAt disk root' es' tok' ids'->Tp.VerAt disk' root' es' tok' ids')/\KeepL W w'
theorem grn_flushH(h:Grn w0 f0 d0 n N r t disk P P' root es tok W)(hN:N+2000<90000)(ht:tok<=480)(hP:P'<=n):
  Calls Tryz.prog 28 #[.pointer (some ⟨t,0,none⟩)] W (FlH w0 f0 d0 n N r t disk P' root es tok W):=by
 obtain⟨⟨F,a,σ,ids,e1,e2,e3,e4,e5,rfl,hst,rfl,hF⟩,hl,hb⟩:=h
 have m2:=hst.rt.few
 have m3:=hst.mineLen
 have hpg:=hst.ap.pg
 refine(fst_flush2 (N:=N) hst e5 hN e3 (by omega)).mono ?_
 rintro e w' ⟨rfl,F',disk',hfl⟩
 obtain⟨f1,f2,f3,f4⟩:=hfl.same
 have hsz:F'.D.sure.length=n:=by obtain⟨cc,c1,c2⟩:=hfl.ready.on.c;exact c1.ok.size
 obtain⟨R,_,_,hA⟩:=hfl.ready.file
 obtain⟨m,k,D,hx,hxm⟩:=hfl.tx.txn2 hA hsz
 refine⟨rfl,disk',⟨⟨F',m,k,D,σ.free,by rw[f2,e1],by rw[f3,e2],by rw[f4];decide,⟨?_,hfl.ready.file,hfl.ready.ht,hfl.ready.b0,hfl.ready.bw⟩,by rw[f1];exact e4,hx,hxm⟩,⟨hfl.low.nofree,fun x y hx=> ?_⟩,⟨hpg.1,hP⟩,hb.trans (hfl.below.mono e4)⟩,⟨ids,hfl.ver⟩,hfl.old,hfl.keepL⟩
 ·obtain⟨q1,q2,q3,q4⟩:=hfl.ready.on
  exact⟨q1,q2,⟨q3.1,by omega⟩,by omega⟩
 ·obtain⟨cc,c1,c2⟩:=hfl.ready.on.c
  have hn:=hfl.ready.on.hn
  have h2:=(c2 x y hx).2.1
  have:¬x<2/\¬ (n:Int)<=x:=by simpa[noPage]using h2
  omega
structure HarD(w0:World)(f0 d0 n N r t:Nat)(disk:Tp.Disk)(P i:Int)(W:World):Prop where
 ex:∃ (F:FFile) (m k:Nat) (D:DataW Value) (fl:List Run),F.f=f0/\F.d=d0/\FReady F n (hole disk i) N r W/\w0.heap.size<=F.B/\Txn W t m F.f n fl P k D/\PageIs F.D i none
 low:LowD disk [] P/\∀x y,disk x=some y->2<=x/\x<=16384
 p:2<=P/\P<=n
 below:Below w0.heap.size w0 W
theorem donD_raw(h:DonD w0 f0 d0 n N r t disk P W)(hN:N<900000)(hi:2<=i/\i<n)(s:Bs)(hb:BadPg i s):
  Calls Tryz.prog 39 #[.pointer (some ⟨d0,0,none⟩), .int .i64 i,str s] W fun e w'=>e= .returned (.int .i64 0)/\HarD w0 f0 d0 n (N+1) r t disk P i w'/\KeepL W w':=by
 obtain⟨⟨F,m,k,D,fl,rfl,rfl,e3,e4,e5,e6,e7⟩,h1,h2,h3⟩:=h
 refine(fr_raw e4 e3 (by omega) hi s hb).mono ?_
 rintro e w' ⟨rfl,F',hf⟩
 obtain⟨s1,s2,s3,s4,s5,s6⟩:=hf.same
 exact⟨rfl,⟨⟨F',m,k,D,fl,s2,s3,hf.ready,by rw[s1];exact e5,by rw[s2];exact hf.txn e6 e7,hf.bad⟩,h1,h2,h3.trans (hf.below.mono e5)⟩,fun α E ty base v l hl ht=>hf.lo hl (by rcases ht with rfl | rfl | rfl<;>decide) (by rcases ht with rfl | rfl | rfl<;>decide)⟩
theorem harD_pages(h:HarD w0 f0 d0 n N r t disk P i W):Calls Tryz.prog 30 #[.pointer (some ⟨t,0,none⟩)] W fun e w'=>e= .returned (.int .i64 P)/\w'=W:=by
 obtain⟨⟨F,m,k,D,fl,e1,e2,e4,e5,e6,e7⟩,h1,h2,h3⟩:=h
 exact tpages_any t m F.f n k fl P D W e6
structure BegH(w0:World)(d0 n N r t:Nat)(disk:Tp.Disk)(P i:Int)(W:World):Prop where
 ex:∃ (F:FFile) (B m:Nat),F.d=d0/\TMd F B t m n (Rp.minus [(2,P-1)] []) (hole disk i) r (Tp.start [] P) W/\F.d<B/\w0.heap.size<=m/\w0.heap.size<=F.B/\PageIs F.D i none
 tl:w0.heap.size<=t
 low:LowD disk [] P/\∀x y,disk x=some y->2<=x/\x<=16384
 p:2<=P/\P<=n
 below:Below w0.heap.size w0 W
theorem harD_new(h:HarD w0 f0 d0 n N r t disk P i W)(hN:N<1000000):
  Calls Tryz.prog 20 #[.pointer (some ⟨f0,0,none⟩), .slice none 0 0, .int .i64 P] W fun e w'=>∃t',e= .returned (.pointer (some ⟨t',0,none⟩))/\BegH w0 d0 n N r t' disk P i w'/\Below W.heap.size W w':=by
 obtain⟨⟨F,m,k,D,fl,rfl,rfl,e4,e5,e6,e7⟩,h1,h2,h3⟩:=h
 have hlow:LowD (hole disk i) [] P:=fun id x hx=>by
  unfold hole at hx
  split at hx
  ·cases hx
  ·exact h1.1 id x hx
 refine(fr_begin e4 hN none 0 [] P P (by unfold pagesN;omega) RS.nil_ (Nat.zero_le _) hlow).mono ?_
 rintro e w' ⟨t',m',rfl,hM,⟨q1,q2,q3⟩,b⟩
 exact⟨t',rfl,⟨⟨F,_,m',rfl,hM,q3,Nat.le_trans h3.size q2,e5,e7⟩,Nat.le_trans h3.size q1,h1,h2,h3.trans (b.mono h3.size)⟩,b⟩
theorem tmd_bad{F:FFile}{B m:Nat}{used:List Run} :BadGet (SD F t m) t (TMd F B t m n used disk) (fun x=>Rp.Mem used x/\PageIs F.D x none):=fun {r σ w id} h hb k _=>by
 obtain⟨hu,hp⟩:=hb
 obtain⟨b1,b2,b3,b4,⟨g1,g2,D,g3,g4,g5⟩,b6,R,r1,r2,r3⟩:=h
 have hpg:=g1.pg
 have hn:=b6.n
 have hnn:=g1.hu id hu
 have hno:noPage F.D.sure.length id=false:=by unfold noPage;rw[b6.size];simp;omega
 have hsm:=ap_small g1
 have hlt:=r3.disk.self.lt
 have hle:=r3.disk.le.1
 refine(tget_D t m n _ _ _ D id k (by exact(show IdOk id by unfold IdOk;omega).wf) (by rw[g4.has];exact decide_eq_false (g1.um id hu)) (by omega) hnn.2 (Rp.has_used fun hf=>g1.fu id hf hu) hsm.1 w g3 r3 (b6.fine ⟨r1,by omega⟩) b4 b3.1 (by omega) none (fun _ _=>at_reads hp)).mono ?_
 rintro e w' ⟨rfl,q1,q2⟩
 have hrd:Dk.readD { F.D with reads:=R } id= { F.D with reads:=R+1 } :=by
  unfold Dk.readD
  rw[if_neg (by show ¬noPage F.D.sure.length id=true;rw[hno];decide),if_neg (by show ¬F.D.down=true;rw[b6.down];decide)]
 rw[hrd]at q1
 have hR:F.At w' (R+1):=q1
 refine⟨?_,⟨⟨b1.1,b1.2.1,Nat.le_trans b1.2.2 q2.size⟩,b2,b3,b4.fr q2 (fun a=>by omega),⟨g1,g2,D,g3.read q2 r3 hR b6.size,g4,g5⟩,b6,R+1,by omega,by omega,hR⟩,q2.more fun g hg=> .inr (.inr hg)⟩
 have e1:frB F.D.sure.length F.D.down id k none=([],3):=by
  unfold frB
  rw[hno,b6.down]
  rfl
 show Ending.returned (.tuple #[str (frB F.D.sure.length F.D.down id k none).1, .int .i64 (frB F.D.sure.length F.D.down id k none).2])=_
 rw[e1]
 rfl
def DhEnd(w0:World)(D:List Dl)(W:World)(e:Ending)(w':World):Prop:=
 ((∃A c,e= .returned (.tuple #[.slice A D.length c, .int .i64 0])/\LO dlE 92 w' W.heap.size (.slice A D.length c) D)\/e= .returned (.tuple #[.slice none 0 0, .int .i64 3]))/\Below w0.heap.size w0 w'/\KeepL W w'
theorem begH_diff(h:BegH w0 d0 n N 12000 t disk P i W){ra rb:Int}{A Bl:List Ent}{ta tb:Nat}(htk:ta<=480/\tb<=480)(hva:∃ids,Tp.VerAt disk ra A ta ids)(hvb:∃ids,Tp.VerAt disk rb Bl tb ids):
  Calls Tryz.prog 45 #[.pointer (some ⟨t,0,none⟩), .int .i64 ra, .int .i64 rb] W (DhEnd w0 (En.mergeD A Bl) W):=by
 obtain⟨⟨F,B,m,e1,e2,e3,e4,e5,e6⟩,h0,⟨h1,hon⟩,h2,h3⟩:=h
 obtain⟨ia,va⟩:=hva
 obtain⟨ib,vb⟩:=hvb
 have pos:∀ {r:Int} {l:List Ent} {k:Nat} {ids:List Int},Tp.VerAt disk r l k ids->∀x∈ids,0<x:=fun hv x hx=>by
  obtain⟨y,hy⟩:=hv.some_ x hx
  have:=(hon x y hy).1
  omega
 obtain⟨a1,a2,a3⟩:=ver_few va
 obtain⟨b1,b2,b3⟩:=ver_few vb
 have hml:=En.merge_len (A.length+Bl.length) A Bl (Nat.le_refl _)
 have hM:=mach_disk F e2.low.1 e2.low.2.1 e3 n (Rp.minus [(2,P-1)] []) (hole disk i)
 have hsee:∀x y,disk x=some y->Rp.Mem (Rp.minus [(2,P-1)] []) x/\2<=x/\x<P:=fun x y hx=>by
  have q1:=h1 x y hx
  have q2:=hon x y hx
  exact⟨((Rp.minus_ok [(2,P-1)] []).2 x).2 ⟨by omega,by unfold Rp.Most;omega,Rp.mem_two.2 ⟨q2.1,q1.1⟩,q1.2⟩,q2.1,q1.1⟩
 have hvw:∀x y,disk x=some y->(Tp.start [] P).view disk x=disk x:=fun x y hx=>by
  obtain⟨q1,q2,q3⟩:=hsee x y hx
  exact Tp.start_view q2 q3 (fun⟨a,ha,_⟩=>by cases ha)
 have hve:∀x,x≠i->(Tp.start [] P).view (hole disk i) x=(Tp.start [] P).view disk x:=fun x hx=>by
  unfold Tp.Pst.view hole
  simp only[if_neg hx]
 have hvn:(Tp.start [] P).view (hole disk i) i=none:=by
  cases hv:(Tp.start [] P).view (hole disk i) i with
  |none=>rfl
  |some y=>
   rcases view_cases hv with⟨a,_⟩ | ⟨_,_,_,_,a⟩
   ·exact absurd a List.not_mem_nil
   ·unfold hole at a
    rw[if_pos rfl]at a
    cases a
 have hv:∀x,(Tp.start [] P).view (hole disk i) x=(Tp.start [] P).view disk x\/((Tp.start [] P).view (hole disk i) x=none/\(Rp.Mem (Rp.minus [(2,P-1)] []) x/\PageIs F.D x none)):=fun x=>by
  by_cases hx:x=i
  ·subst hx
   cases ho:(Tp.start [] P).view disk x with
   |none=>exact .inl hvn
   |some y=>
    rcases view_cases ho with⟨a,_⟩ | ⟨_,_,_,_,a⟩
    ·exact absurd a List.not_mem_nil
    ·exact .inr ⟨hvn,(hsee x y a).1,e6⟩
  ·exact .inl (hve x hx)
 have va':Tp.VerAt ((Tp.start [] P).view disk) ra A ta ia:=va.congr fun x hx=>by obtain⟨y,hy⟩:=va.some_ x hx;exact hvw x y hy
 have vb':Tp.VerAt ((Tp.start [] P).view disk) rb Bl tb ib:=vb.congr fun x hx=>by obtain⟨y,hy⟩:=vb.some_ x hx;exact hvw x y hy
 have hR:=Td.Run.start va' vb' (pos va) (pos vb) (by omega) (by omega) a3 b3
 have hdB:F.B<=F.d:=by
  obtain⟨R,_,_,hA⟩:=e2.file
  exact hA.disk.le.1
 refine(diff_any hM tmd_bad ((Tp.start [] P).view disk) ra rb 0 _ (Tp.start [] P) hv _ hR (by omega) (by omega) W (hM.less e2 (by omega))).mono ?_
 rintro e w' ⟨hz,ht,hf⟩
 refine⟨hz.imp_right fun a=>a.1,h3.trans (hf.low h3.size (fun k hk=> ?_)),fun α E ty base v l hl hty=>lo_frb hl hf fun g hg=> ?_⟩
 ·rcases hk with rfl | rfl | rfl<;>omega
 ·obtain⟨cs,hB,_⟩:=hl.blk_ hg
  obtain⟨R,_,_,hA⟩:=e2.file
  obtain⟨D,⟨_,⟨v,hT,_⟩,es',c',hm,_⟩,_⟩:=e2.mem.txn
  rintro(e | e | e)
  ·exact hB.ne_ hT (by rcases hty with rfl | rfl | rfl<;>decide) e
  ·subst e
   unfold Blk at hB
   rw[hm]at hB;cases hB
  ·exact hB.ne_ hA.disk.self (by rcases hty with rfl | rfl | rfl<;>decide) e
end
end Go.Proofs.YtjoiajmbfbjnnaaGreatDoor
namespace Go.Proofs.YtjoiajmbfbjnnaaGreatDoor
open Go.RowKit
theorem eiRDl:EI Tryz.prog 182 (.agg #[.string ⟨#[]⟩, .string ⟨#[]⟩, .string ⟨#[]⟩, .bool false, .bool false]) 5 56:=EI.mk (by kernel_rfl)
def rdlE:Enc En.Dl:=⟨fun d=> [.string d.key, .string d.old, .string d.new, .bool d.was, .bool d.is],5,fun _=>rfl,by decide,fun x u hu=>by simp at hu;rcases hu with rfl | rfl | rfl | rfl | rfl<;>rfl⟩
def kF(ks l:List Ent):List Ent:=l.foldl (fun ks x=>En.put ks x.1 ⟨#[]⟩) ks
theorem kF_succ(ks l:List Ent)(j:Nat)(hj:j<l.length):kF ks (l.take (j+1))=En.put (kF ks (l.take j)) l[j].1 ⟨#[]⟩:=by
 unfold kF;rw[List.take_succ_eq_append_getElem hj,List.foldl_append];rfl
theorem kF_keysE(a b:List Ent):kF (kF [] a) b=En.keysE a b:=by unfold kF En.keysE;rw[List.foldl_append];rfl
def rtold(a b:List Ent):List En.Dl:=if En.right a&&En.right b then En.refD a b else []
def rD(a b ks:List Ent):List En.Dl:=ks.filterMap fun e=>En.dAt a b e.1
theorem rD_succ(a b ks:List Ent)(j:Nat)(hj:j<ks.length):rD a b (ks.take (j+1))=rD a b (ks.take j)++(En.dAt a b ks[j].1).toList:=by
 unfold rD
 rw[List.take_succ_eq_append_getElem hj,List.filterMap_append,List.filterMap_cons]
 cases En.dAt a b ks[j].1<;>rfl
theorem rlists_no(A1 A2:Option Addr)(c1 c2:Nat)(a b:List Ent)(w:World)(h1:LS entE w w.heap.size A1 a)(h2:LS entE w w.heap.size A2 b)(ha:a.length<=1000)(hb:b.length<=1000)(hn:(En.right a&&En.right b)=false)(o:List En.Dl)(ho:o= []):
  Calls Tryz.prog 47 #[.slice A1 a.length c1, .slice A2 b.length c2] w (LEnd rdlE 182 o w):=by
 subst ho
 have e1:=hid_calls (rright_any A1 c1 a w h1 (by omega))
 have e2:=fun W h=>hid_calls (rright_any A2 c2 b W h (by omega))
 cases hra:En.right a with
 |false=>
  rw[hra]at e1
  generalize En.right b=rb at*
  clear hra hn
  go_enter Tryz.func47,Tryz.ntmps47
  go_wp2_with fail
  refine e1.out.mono ?_
  rintro e w1 ⟨rfl,b1⟩
  have r2:=h2.up b1
  go_wp2_with fail
  refine(e2 _ r2).out.mono ?_
  rintro e w2 ⟨rfl,b2⟩
  go_wp2
  all_goals
   go_ret
   exact⟨_,rfl,LO.nil_ _ _,b1.trans (b2.mono b1.size)⟩
 |true=>
  rw[hra]at hn e1
  have hrb:En.right b=false:=by simpa using hn
  rw[hrb]at e2
  clear hra hn hrb
  go_enter Tryz.func47,Tryz.ntmps47
  go_wp2_with fail
  refine e1.out.mono ?_
  rintro e w1 ⟨rfl,b1⟩
  have r2:=h2.up b1
  go_wp2_with fail
  refine(e2 _ r2).out.mono ?_
  rintro e w2 ⟨rfl,b2⟩
  go_wp2
  all_goals
   go_ret
   exact⟨_,rfl,LO.nil_ _ _,b1.trans (b2.mono b1.size)⟩
theorem dAt_nn{a b:List Ent}{k:ByteArray}(h1:En.get a k=none)(h2:En.get b k=none):En.dAt a b k=none:=by unfold En.dAt;rw[h1,h2]
theorem dAt_sn{a b:List Ent}{k x:ByteArray}(h1:En.get a k=some x)(h2:En.get b k=none):En.dAt a b k=some ⟨k,x,⟨#[]⟩,true,false⟩:=by unfold En.dAt;rw[h1,h2];rfl
theorem dAt_ns{a b:List Ent}{k y:ByteArray}(h1:En.get a k=none)(h2:En.get b k=some y):En.dAt a b k=some ⟨k,⟨#[]⟩,y,false,true⟩:=by unfold En.dAt;rw[h1,h2];rfl
theorem dAt_se{a b:List Ent}{k x y:ByteArray}(h1:En.get a k=some x)(h2:En.get b k=some y)(h:En.eqs x y=true):En.dAt a b k=none:=by unfold En.dAt;rw[h1,h2];simp[h]
theorem dAt_sd{a b:List Ent}{k x y:ByteArray}(h1:En.get a k=some x)(h2:En.get b k=some y)(h:En.eqs x y=false):En.dAt a b k=some ⟨k,x,y,true,true⟩:=by unfold En.dAt;rw[h1,h2];simp[h]
theorem nil_eq:((⟨#[]⟩:ByteArray).toList==(⟨#[]⟩:ByteArray).toList)=true:=by simp
theorem rlists_yes(A1 A2:Option Addr)(c1 c2:Nat)(a b:List Ent)(w:World)(h1:LS entE w w.heap.size A1 a)(h2:LS entE w w.heap.size A2 b)(ha:a.length<=1000)(hb:b.length<=1000)(hra:En.right a=true)(hrb:En.right b=true)(o:List En.Dl)(ho:o=En.refD a b):
  Calls Tryz.prog 47 #[.slice A1 a.length c1, .slice A2 b.length c2] w (LEnd rdlE 182 o w):=by
 have HO:=Lib.hid ho
 clear ho
 have e1:=hid_calls (rright_any A1 c1 a w h1 (by omega))
 have e2:=fun W h=>hid_calls (rright_any A2 c2 b W h (by omega))
 rw[hra]at e1
 rw[hrb]at e2
 clear hra hrb
 go_enter Tryz.func47,Tryz.ntmps47
 go_wp2_with fail
 refine e1.out.mono ?_
 rintro e w1 ⟨rfl,b1⟩
 have r2:=h2.up b1
 have r1:=h1.up b1
 go_wp2_with fail
 refine(e2 _ r2).out.mono ?_
 rintro e w2 ⟨rfl,b2⟩
 have q2:=r2.up b2
 have q1:=r1.up b2
 have bb:=b1.trans (b2.mono b1.size)
 clear e1 e2 b1 b2 r1 r2 h1 h2
 go_wp2
 go_loopw [7,8] (fun v i wr=>∃ (j:Nat) (ks:List Ent) (A:Option Addr) (c:Nat),j<=a.length/\i= .int .i64 j/\v= .slice A ks.length c/\LS entE wr wr.heap.size A ks/\Hid (ks=kF [] (a.take j))/\ks.length<=j/\Below w2.heap.size w2 wr) (fun _ i _=>a.length-(intOf i).toNat)
 case atStart=>exact⟨0, [],none,0,by omega,rfl,rfl,LS.nil_,Lib.hid rfl,by simp,Below.refl _ _⟩
 case round=>
  obtain⟨j,ks,A,c,hj,rfl,rfl,hks,HK,hkl,hbe⟩:=hrel
  by_cases hlt:j<a.length
  ·obtain⟨b3,o3,rfl,hb3,g0,g1⟩:=(q1.below hbe).ent hlt
   have hd:=Lib.hid (kF_succ [] a j hlt)
   generalize a[j]=x at*
   have hp:=hid_calls (rput_any A c ks x.1 ⟨#[]⟩ wr hks (by omega))
   have hpl:=En.put_len ks x.1 ⟨#[]⟩
   obtain⟨ks2,hks2⟩:∃k,k=En.put ks x.1 ⟨#[]⟩:=⟨_,rfl⟩
   rw[<-hks2]at hp hpl
   have HK2:=Lib.hid hks2
   clear hks2
   go_wp2_with fail
   refine hp.out.mono ?_
   intro e w3 he
   obtain⟨A4,c4,rfl,_,r4,b4⟩:=he.open_
   clear he
   go_wp2
   go_roundw
   case rel=>exact⟨j+1,ks2,A4,c4,by omega,by go_num,rfl,r4,Lib.hid (by rw[HK2.out,HK.out,hd.out]),by omega,hbe.trans (b4.mono hbe.size)⟩
   case measure=>simp[intOf];omega
  ·obtain rfl:j=a.length:=by omega
   have hka:=HK.out
   rw[List.take_of_length_le (Nat.le_refl _)]at hka
   have HKA:=Lib.hid hka
   clear hka HK
   have q2b:=q2.up hbe
   have q1b:=q1.up hbe
   have bb2:=bb.trans (hbe.mono bb.size)
   clear q2 q1 bb hbe
   obtain⟨wa,rfl⟩:∃wa:World,wa=wr:=⟨_,rfl⟩
   go_wp2
   go_loopw [7,9] (fun v i wr=>∃ (j:Nat) (ks2:List Ent) (A:Option Addr) (c:Nat),j<=b.length/\i= .int .i64 j/\v= .slice A ks2.length c/\LS entE wr wr.heap.size A ks2/\Hid (ks2=kF ks (b.take j))/\ks2.length<=a.length+j/\Below wa.heap.size wa wr) (fun _ i _=>b.length-(intOf i).toNat)
   case atStart=>exact⟨0,ks,A,c,by omega,rfl,rfl,hks,Lib.hid rfl,by omega,Below.refl _ _⟩
   case round=>
    obtain⟨j,ks1,A,c,hj,rfl,rfl,hks1,HK,hkl1,hbe⟩:=hrel
    by_cases hlt:j<b.length
    ·obtain⟨b3,o3,rfl,hb3,g0,g1⟩:=(q2b.below hbe).ent hlt
     have hd:=Lib.hid (kF_succ ks b j hlt)
     generalize b[j]=x at*
     have hp:=hid_calls (rput_any A c ks1 x.1 ⟨#[]⟩ wr hks1 (by omega))
     have hpl:=En.put_len ks1 x.1 ⟨#[]⟩
     obtain⟨ks2,hks2⟩:∃k,k=En.put ks1 x.1 ⟨#[]⟩:=⟨_,rfl⟩
     rw[<-hks2]at hp hpl
     have HK2:=Lib.hid hks2
     clear hks2
     go_wp2_with fail
     refine hp.out.mono ?_
     intro e w3 he
     obtain⟨A4,c4,rfl,_,r4,b4⟩:=he.open_
     clear he
     go_wp2
     go_roundw
     case rel=>exact⟨j+1,ks2,A4,c4,by omega,by go_num,rfl,r4,Lib.hid (by rw[HK2.out,HK.out,hd.out]),by omega,hbe.trans (b4.mono hbe.size)⟩
     case measure=>simp[intOf];omega
    ·obtain rfl:j=b.length:=by omega
     have hkb:=HK.out
     rw[List.take_of_length_le (Nat.le_refl _),HKA.out,kF_keysE]at hkb
     have HKB:=Lib.hid hkb
     clear hkb HK HKA
     have q2c:=q2b.up hbe
     have q1c:=q1b.up hbe
     have bb3:=bb2.trans (hbe.mono bb2.size)
     clear q2b q1b bb2 hbe hks
     obtain⟨wb,rfl⟩:∃wb:World,wb=wr:=⟨_,rfl⟩
     go_wp2
     go_loopw [10,11,12,13,14,15] (fun v i _ _ _ _ wr=>∃ (j:Nat) (out:List En.Dl),j<=ks1.length/\i= .int .i64 j/\LO rdlE 182 wr wb.heap.size v out/\Hid (out=rD a b (ks1.take j))/\out.length<=j/\Below wb.heap.size wb wr) (fun _ i _ _ _ _ _=>ks1.length-(intOf i).toNat)
     case atStart=>exact⟨0, [],by omega,rfl,LO.nil_ _ _,Lib.hid rfl,by simp,Below.refl _ _⟩
     case round=>
      obtain⟨j,out,hj,rfl,hout,HD,hol,hbe⟩:=hrel
      by_cases hlt:j<ks1.length
      ·obtain⟨b3,o3,rfl,hb3,g0,g1⟩:=(hks1.below hbe).ent hlt
       have hd:=Lib.hid (rD_succ a b ks1 j hlt)
       generalize ks1[j]=x at*
       have ga:=hid_calls (rget_any A1 c1 a x.1 wr (q1c.up hbe) (by omega))
       have gb:=hid_calls (rget_any A2 c2 b x.1 wr (q2c.up hbe) (by omega))
       obtain⟨Ao,co,rfl⟩:=hout.form
       have hraw:=hout.raw rfl (s:=5) rfl
       have hna:=nil_eq
       cases hga:En.get a x.1 with
       |none=>
        rw[hga]at ga
        cases hgb:En.get b x.1 with
        |none=>
         rw[hgb]at gb
         have HDA:=Lib.hid (dAt_nn hga hgb)
         clear hga hgb
         go_wp2_with fail
         refine ga.out.mono ?_
         rintro e w' ⟨rfl,hw⟩;replace hw:=hw.symm;subst hw
         go_wp2_with fail
         refine gb.out.mono ?_
         rintro e w' ⟨rfl,hw⟩;replace hw:=hw.symm;subst hw
         go_wp2
         go_roundw
         case rel=>exact⟨j+1,out,by omega,by go_num,hout,Lib.hid (by rw[hd.out,HDA.out,HD.out];simp),by omega,hbe⟩
         case measure=>simp[intOf];omega
        |some y=>
         rw[hgb]at gb
         have HDA:=Lib.hid (dAt_ns hga hgb)
         clear hga hgb
         go_wp2_with fail
         refine ga.out.mono ?_
         rintro e w' ⟨rfl,hw⟩;replace hw:=hw.symm;subst hw
         go_wp2_with fail
         refine gb.out.mono ?_
         rintro e w' ⟨rfl,hw⟩;replace hw:=hw.symm;subst hw
         go_wp2_with (at_builtin;refine wpList_app1 rfl (.tmp 86) (.tmp 97) 82 rfl eiRDl Tryz.underlying82 rfl (by decide) rfl hraw rfl (by simp) rfl (by simp[Value.oneCell']) (by unfold maxLen;omega) (by omega) hbe.size ?_;intro v' w2 hown' hgrow hbel _ _)
         go_roundw
         case rel=>exact⟨j+1,out++ [⟨x.1,⟨#[]⟩,y,false,true⟩],by omega,by go_num,LO.snoc (E:=rdlE) (x:=⟨x.1,⟨#[]⟩,y,false,true⟩) rfl rfl rfl hown',Lib.hid (by rw[hd.out,HDA.out,HD.out];rfl),by simp;omega,hbe.trans hbel⟩
         case measure=>simp[intOf];omega
       |some xv=>
        rw[hga]at ga
        cases hgb:En.get b x.1 with
        |none=>
         rw[hgb]at gb
         have HDA:=Lib.hid (dAt_sn hga hgb)
         clear hga hgb
         go_wp2_with fail
         refine ga.out.mono ?_
         rintro e w' ⟨rfl,hw⟩;replace hw:=hw.symm;subst hw
         go_wp2_with fail
         refine gb.out.mono ?_
         rintro e w' ⟨rfl,hw⟩;replace hw:=hw.symm;subst hw
         go_wp2_with (at_builtin;refine wpList_app1 rfl (.tmp 86) (.tmp 97) 82 rfl eiRDl Tryz.underlying82 rfl (by decide) rfl hraw rfl (by simp) rfl (by simp[Value.oneCell']) (by unfold maxLen;omega) (by omega) hbe.size ?_;intro v' w2 hown' hgrow hbel _ _)
         go_roundw
         case rel=>exact⟨j+1,out++ [⟨x.1,xv,⟨#[]⟩,true,false⟩],by omega,by go_num,LO.snoc (E:=rdlE) (x:=⟨x.1,xv,⟨#[]⟩,true,false⟩) rfl rfl rfl hown',Lib.hid (by rw[hd.out,HDA.out,HD.out];rfl),by simp;omega,hbe.trans hbel⟩
         case measure=>simp[intOf];omega
        |some y=>
         rw[hgb]at gb
         cases heq:En.eqs xv y with
         |true=>
          have HDA:=Lib.hid (dAt_se hga hgb heq)
          have he:(xv.toList==y.toList)=true:=heq
          have hne:(!(xv.toList==y.toList))=false:=by rw[he];rfl
          clear hga hgb heq
          go_wp2_with fail
          refine ga.out.mono ?_
          rintro e w' ⟨rfl,hw⟩;replace hw:=hw.symm;subst hw
          go_wp2_with fail
          refine gb.out.mono ?_
          rintro e w' ⟨rfl,hw⟩;replace hw:=hw.symm;subst hw
          go_wp2
          go_roundw
          case rel=>exact⟨j+1,out,by omega,by go_num,hout,Lib.hid (by rw[hd.out,HDA.out,HD.out];simp),by omega,hbe⟩
          case measure=>simp[intOf];omega
         |false=>
          have HDA:=Lib.hid (dAt_sd hga hgb heq)
          have he:(xv.toList==y.toList)=false:=heq
          have hne:(!(xv.toList==y.toList))=true:=by rw[he];rfl
          clear hga hgb heq
          go_wp2_with fail
          refine ga.out.mono ?_
          rintro e w' ⟨rfl,hw⟩;replace hw:=hw.symm;subst hw
          go_wp2_with fail
          refine gb.out.mono ?_
          rintro e w' ⟨rfl,hw⟩;replace hw:=hw.symm;subst hw
          go_wp2_with (at_builtin;refine wpList_app1 rfl (.tmp 86) (.tmp 97) 82 rfl eiRDl Tryz.underlying82 rfl (by decide) rfl hraw rfl (by simp) rfl (by simp[Value.oneCell']) (by unfold maxLen;omega) (by omega) hbe.size ?_;intro v' w2 hown' hgrow hbel _ _)
          go_roundw
          case rel=>exact⟨j+1,out++ [⟨x.1,xv,y,true,true⟩],by omega,by go_num,LO.snoc (E:=rdlE) (x:=⟨x.1,xv,y,true,true⟩) rfl rfl rfl hown',Lib.hid (by rw[hd.out,HDA.out,HD.out];rfl),by simp;omega,hbe.trans hbel⟩
          case measure=>simp[intOf];omega
      ·obtain rfl:j=ks1.length:=by omega
       have hfin:=HD.out
       rw[List.take_of_length_le (Nat.le_refl _)]at hfin
       have HF:=Lib.hid hfin
       clear hfin
       go_wp2
       go_ret
       refine⟨_,rfl, ?_,bb3.trans (hbe.mono bb3.size)⟩
       have e:out=En.refD a b:=by rw[HF.out,HKB.out];rfl
       rw[HO.out, <-e]
       exact hout.lower bb3.size
theorem rlists_any(A1 A2:Option Addr)(c1 c2:Nat)(a b:List Ent)(w:World)(h1:LS entE w w.heap.size A1 a)(h2:LS entE w w.heap.size A2 b)(ha:a.length<=1000)(hb:b.length<=1000):
  Calls Tryz.prog 47 #[.slice A1 a.length c1, .slice A2 b.length c2] w (LEnd rdlE 182 (rtold a b) w):=by
 cases h:En.right a&&En.right b with
 |false=>exact rlists_no A1 A2 c1 c2 a b w h1 h2 ha hb h _ (by unfold rtold;rw[h];rfl)
 |true=>
  have h':En.right a=true/\En.right b=true:=by simpa using h
  exact rlists_yes A1 A2 c1 c2 a b w h1 h2 ha hb h'.1 h'.2 _ (by unfold rtold;rw[h];rfl)
end Go.Proofs.YtjoiajmbfbjnnaaGreatDoor
namespace Go.Proofs.YtjoiajmbfbjnnaaGreatDoor
open Go.RowKit Go.Shelf
theorem LS.dl{w:World}{B:Nat}{A:Option Addr}{l:List Dl}(h:LS dlE w B A l){k:Nat}(hk:k<l.length):∃b off,A=some ⟨b,off,none⟩/\b<B/\w.cell? ⟨b,off+k*5,none⟩=some (.string l[k].key)/\w.cell? ⟨b,off+k*5+1,none⟩=some (.string l[k].old)/\w.cell? ⟨b,off+k*5+2,none⟩=some (.string l[k].new)/\w.cell? ⟨b,off+k*5+3,none⟩=some (.bool l[k].was)/\w.cell? ⟨b,off+k*5+4,none⟩=some (.bool l[k].is):=by
 obtain⟨b,off,rfl,hb,hc⟩:=h.at_ hk
 exact⟨b,off,rfl,hb,hc 0 (by decide),hc 1 (by decide),hc 2 (by decide),hc 3 (by decide),hc 4 (by decide)⟩
theorem LS.rdl{w:World}{B:Nat}{A:Option Addr}{l:List Dl}(h:LS rdlE w B A l):LS dlE w B A l:=h
theorem ap1_put{l:List Ent}{d:Dl}(h:d.is=true):En.ap1 l d=putS l d.key d.new:=by
 unfold En.ap1 putS;rw[h]
 cases En.right l<;>cases En.may d.key d.new<;>rfl
theorem ap1_del{l:List Ent}{d:Dl}(h:d.is=false):En.ap1 l d=delS l d.key:=by
 unfold En.ap1 delS;rw[h]
 cases En.right l<;>rfl
def apAt(l:List Ent)(d:List Dl)(j:Nat):List Ent:=En.ap l (d.take j)
theorem apAt_succ(l:List Ent)(d:List Dl)(j:Nat)(hj:j<d.length):apAt l d (j+1)=En.ap1 (apAt l d j) d[j]:=by
 unfold apAt;rw[List.take_succ_eq_append_getElem hj,En.ap_append];rfl
theorem apAt_len(l:List Ent)(d:List Dl)(j:Nat):(apAt l d j).length<=l.length+j:=by
 have h1:=En.ap_len (d.take j) l
 have h2:=List.length_take_le j d
 unfold apAt;omega
theorem apply_any(A:Option Addr)(c:Nat)(l:List Ent)(A2:Option Addr)(c2:Nat)(d:List Dl)(w:World)(hr:SV entE w A c l)(hd:LS dlE w w.heap.size A2 d)(hl:l.length<=40000)(hdl:d.length<=40000):
  Calls Tryz.prog 49 #[.slice A l.length c, .slice A2 d.length c2] w (GiveEnd entE (En.ap l d) w):=by
 obtain⟨o,ho⟩:∃o,o=En.ap l d:=⟨_,rfl⟩
 rw[<-ho]
 have HO:=Lib.hid ho
 clear ho
 go_enter Tryz.func49,Tryz.ntmps49
 go_wp2
 go_loopw [0,6,9] (fun v _ i wr=>∃ (j:Nat) (cur:List Ent) (A:Option Addr) (c:Nat),j<=d.length/\i= .int .i64 j/\v= .slice A cur.length c/\SV entE wr A c cur/\Hid (cur=apAt l d j)/\cur.length<=l.length+j/\Below w.heap.size w wr) (fun _ _ i _=>d.length-(intOf i).toNat)
 case atStart=>exact⟨0,l,A,c,by omega,rfl,rfl,hr,Lib.hid rfl,by omega,Below.refl _ _⟩
 case round=>
  obtain⟨j,cur,A,c,hj,rfl,rfl,hcur,HC,hcl,hbe⟩:=hrel
  by_cases hlt:j<d.length
  ·obtain⟨b3,o3,rfl,hb3,g0,g1,g2,g3,g4⟩:=(hd.below hbe).dl hlt
   have hst:=Lib.hid (apAt_succ l d j hlt)
   generalize d[j]=x at*
   have hal1:=apAt_len l d (j+1)
   have hB1:=Blk.new wr 92 #[.string x.key, .string x.old, .string x.new, .bool x.was, .bool x.is]
   have hb1:Below wr.heap.size wr (wr.alloc (.cells #[.string x.key, .string x.old, .string x.new, .bool x.was, .bool x.is] 92)):=(Below.refl _ wr).alloc (Nat.le_refl _) _
   have hcur1:=hcur.up hb1
   have hbe1:=hbe.trans (hb1.mono hbe.size)
   have hb3':b3<wr.heap.size:=by have:=hbe.size;omega
   cases his:x.is with
   |true=>
    have hp:=fun W h=>hid_calls (eput_any A c cur x.key x.new W h (by omega))
    have hap:=Lib.hid (ap1_put (l:=cur) his)
    obtain⟨nx,hnx⟩:∃n,n=putS cur x.key x.new:=⟨_,rfl⟩
    rw[<-hnx]at hp
    have HN:=Lib.hid hnx
    clear hnx hb1 hB1
    go_wp2_with fail
    rw[his]at hcur1 hbe1
    refine(hp _ hcur1).out.mono ?_
    rintro e w3 ⟨A4,c4,rfl,hs4,b4⟩
    have hfin:nx=apAt l d (j+1):=by rw[HN.out,hst.out, <-HC.out,hap.out]
    have HF:=Lib.hid hfin
    clear hfin
    go_wp2
    go_roundw
    case rel=>exact⟨j+1,nx,A4,c4,by omega,by go_num,rfl,hs4,HF,by rw[HF.out];omega,hbe1.trans (b4.mono hbe1.size)⟩
    case measure=>simp[intOf];omega
   |false=>
    have hp:=fun W h=>hid_calls (edel_any A c cur x.key W h (by omega))
    have hap:=Lib.hid (ap1_del (l:=cur) his)
    obtain⟨nx,hnx⟩:∃n,n=delS cur x.key:=⟨_,rfl⟩
    rw[<-hnx]at hp
    have HN:=Lib.hid hnx
    clear hnx hb1 hB1
    go_wp2_with fail
    rw[his]at hcur1 hbe1
    refine(hp _ hcur1).out.mono ?_
    rintro e w3 ⟨A4,c4,rfl,hs4,b4⟩
    have hfin:nx=apAt l d (j+1):=by rw[HN.out,hst.out, <-HC.out,hap.out]
    have HF:=Lib.hid hfin
    clear hfin
    go_wp2
    go_roundw
    case rel=>exact⟨j+1,nx,A4,c4,by omega,by go_num,rfl,hs4,HF,by rw[HF.out];omega,hbe1.trans (b4.mono hbe1.size)⟩
    case measure=>simp[intOf];omega
  ·obtain rfl:j=d.length:=by omega
   have hfin:cur=o:=by rw[HC.out,HO.out];unfold apAt;rw[List.take_of_length_le (Nat.le_refl _)]
   have HF:=Lib.hid hfin
   clear hfin
   go_wp2
   go_ret
   exact GiveEnd.of_eq (by rw[HF.out]) (by rw[<-HF.out];exact hcur) hbe
def OverEnd(n:Nat)(w:World)(e:Ending)(w':World):Prop:=∃b:Bool,e= .returned (.bool b)/\(b=false->n<=150)/\w'=w
theorem over14_any(A:Option Addr)(n c:Nat)(l:List Ent)(hn:l.length=n)(w:World)(hr:LS entE w w.heap.size A l):
  Calls Tryz.prog 43 #[.slice A n c] w (OverEnd n w):=by
 subst hn
 by_cases h:150<l.length
 ·have hd:decide (150<(l.length:Int))=true:=by simp;omega
  go_enter Tryz.func43,Tryz.ntmps43
  go_wp2
  go_ret
  exact⟨true,rfl,fun e=>(by cases e),rfl⟩
 ·have hd:decide (150<(l.length:Int))=false:=by simp;omega
  have hle:l.length<=150:=by omega
  go_enter Tryz.func43,Tryz.ntmps43
  go_wp2
  go_loop [3] (fun i=>∃j:Nat,j<=l.length/\i= .int .i64 j) (fun i=>l.length-(intOf i).toNat)
  case atStart=>exact⟨0,by omega,rfl⟩
  case round=>
   obtain⟨j,hj,rfl⟩:=hrel
   by_cases hlt:j<l.length
   ·obtain⟨b2,o2,rfl,hb2,g0,g1⟩:=hr.ent hlt
    generalize l[j]=x at*
    by_cases h1:60<(x.1.size:Int)
    ·have hd1:decide (60<(x.1.size:Int))=true:=by simpa using h1
     go_wp2
     go_ret
     exact⟨true,rfl,fun e=>(by cases e),rfl⟩
    ·have hd1:decide (60<(x.1.size:Int))=false:=by simpa using h1
     by_cases h2:60<(x.2.size:Int)
     ·have hd2:decide (60<(x.2.size:Int))=true:=by simpa using h2
      go_wp2
      go_ret
      exact⟨true,rfl,fun e=>(by cases e),rfl⟩
     ·have hd2:decide (60<(x.2.size:Int))=false:=by simpa using h2
      go_wp2
      go_round
      case rel=>exact⟨j+1,by omega,by go_num⟩
      case measure=>simp[intOf];omega
   ·obtain rfl:j=l.length:=by omega
    go_wp2
    go_ret
    exact⟨false,rfl,fun _=>hle,rfl⟩
theorem same14_yes(A B:Option Addr)(l:List Dl)(n c d:Nat)(hn:l.length=n)(w:World)(ha:LS dlE w w.heap.size A l)(hb:LS rdlE w w.heap.size B l)(hl:l.length<=1000000):
  Calls Tryz.prog 46 #[.slice A n c, .slice B n d] w fun e w'=>e= .returned (.bool true)/\Below w.heap.size w w':=by
 subst hn
 go_enter Tryz.func46,Tryz.ntmps46
 go_wp2
 go_loopw [5,6,7] (fun i _ _ wr=>∃k:Nat,k<=l.length/\i= .int .i64 k/\Below w.heap.size w wr) (fun i _ _ _=>l.length-(intOf i).toNat)
 case atStart=>exact⟨0,by omega,rfl,Below.refl _ _⟩
 case round=>
  obtain⟨k,hk,rfl,hbe⟩:=hrel
  by_cases hlt:k<l.length
  ·obtain⟨b1,o1,rfl,hq1,g0,g1,g2,g3,g4⟩:=(ha.below hbe).dl hlt
   obtain⟨b2,o2,rfl,hq2,f0,f1,f2,f3,f4⟩:=(hb.rdl.below hbe).dl hlt
   generalize l[k]=x at*
   have hq1':b1<wr.heap.size:=by have:=hbe.size;omega
   have hq2':b2<wr.heap.size:=by have:=hbe.size;omega
   go_wp2
   go_roundw
   case rel=>exact⟨k+1,by omega,by go_num,(hbe.alloc hbe.size _).alloc (by have:=hbe.size;simp;omega) _⟩
   case measure=>simp[intOf];omega
  ·go_wp2
   go_ret
   exact⟨rfl,hbe⟩
end Go.Proofs.YtjoiajmbfbjnnaaGreatDoor
namespace Go.Proofs.YtjoiajmbfbjnnaaGreatDoor
open Go.RowKit
def StepEnd(on:Bool)(g base:Nat)(a b:List Ent)(out:List Dl)(w:World)(e:Ending)(w':World):Prop:=e= .returned (.tuple #[.bool on, .int .i64 0])/\PairAt w' g base a b out/\Below base w w'
theorem step_done(g base:Nat)(out:List Dl)(w:World)(h:PairAt w g base [] [] out)(hB:base<=w.heap.size):
  Calls Tryz.prog 105 #[.pointer (some ⟨g,0,none⟩)] w (StepEnd false g base [] [] (out) w):=by
 have hTa:=hid_calls (top_a0 h)
 have hTb:=fun W (hP:PairAt W g base [] [] out)=>hid_calls (top_b0 hP)
 go_enter Tryz.func105,Tryz.ntmps105
 go_wp2_with fail
 refine hTa.out.mono ?_
 rintro e w1 ⟨rfl,b1⟩
 have hP1:=(h.below b1).below ((Below.refl _ w1).alloc (Nat.le_refl _) (.cells #[.int .i64 0, .int .i64 0, .string ⟨#[]⟩, .string ⟨#[]⟩] 255))
 have hb1:Below base w (w1.alloc (.cells #[.int .i64 0, .int .i64 0, .string ⟨#[]⟩, .string ⟨#[]⟩] 255)):=(b1.mono hB).alloc (by have:=b1.size;omega) _
 have hBx:=Blk.new w1 255 #[.int .i64 0, .int .i64 0, .string ⟨#[]⟩, .string ⟨#[]⟩]
 clear hTa h b1
 go_wp2_with fail
 generalize hw:w1.alloc (.cells #[.int .i64 0, .int .i64 0, .string ⟨#[]⟩, .string ⟨#[]⟩] 255)=w2 at*
 generalize hq:w1.heap.size=q at*
 clear hw hq
 refine(hTb _ hP1).out.mono ?_
 rintro e w3 ⟨rfl,b3⟩
 have hP3:=(hP1.below b3).below ((Below.refl _ w3).alloc (Nat.le_refl _) (.cells #[.int .i64 0, .int .i64 0, .string ⟨#[]⟩, .string ⟨#[]⟩] 255))
 have hb3:Below base w (w3.alloc (.cells #[.int .i64 0, .int .i64 0, .string ⟨#[]⟩, .string ⟨#[]⟩] 255)):=(hb1.trans (b3.mono (by have:=hb1.size;omega))).alloc (by have:=b3.size;have:=hb1.size;omega) _
 have hBx3:=(hBx.below b3 hBx.lt).alloc (.cells #[.int .i64 0, .int .i64 0, .string ⟨#[]⟩, .string ⟨#[]⟩] 255)
 have hBy:=Blk.new w3 255 #[.int .i64 0, .int .i64 0, .string ⟨#[]⟩, .string ⟨#[]⟩]
 have hltx:=hBx3.lt
 have hlty:=hBy.lt
 have x0:=hBx3.cell 0
 have x1:=hBx3.cell 1
 have x2:=hBx3.cell 2
 have x3:=hBx3.cell 3
 have y0:=hBy.cell 0
 have y1:=hBy.cell 1
 have y2:=hBy.cell 2
 have y3:=hBy.cell 3
 clear hTb hP1 hb1 hBx hBx3 hBy b3
 go_wp2_with fail
 go_ret2
 exact⟨rfl,hP3,hb3⟩
theorem step_a0(g base:Nat)(x:Ent)(a:List Ent)(out:List Dl)(w:World)(h:PairAt w g base (x::a) [] out)(hg:base<=g)(hB:base<=w.heap.size)(ha:a.length<=100000)(ho:out.length<=100000):
  Calls Tryz.prog 105 #[.pointer (some ⟨g,0,none⟩)] w (StepEnd true g base a [] (out++ [En.dOld x]) w):=by
 have hTa:=hid_calls (top_a h (by omega))
 have hTb:=fun W (hP:PairAt W g base (x::a) [] out)=>hid_calls (top_b0 hP)
 have hC:=fun W hP hBB=>hid_calls (only_a g base x a [] out W hP hg hBB ha ho)
 go_enter Tryz.func105,Tryz.ntmps105
 go_wp2_with fail
 refine hTa.out.mono ?_
 rintro e w1 ⟨rfl,b1⟩
 have hP1:=(h.below b1).below ((Below.refl _ w1).alloc (Nat.le_refl _) (.cells #[.int .i64 0, .int .i64 0, .string x.1, .string x.2] 255))
 have hb1:Below base w (w1.alloc (.cells #[.int .i64 0, .int .i64 0, .string x.1, .string x.2] 255)):=(b1.mono hB).alloc (by have:=b1.size;omega) _
 have hBx:=Blk.new w1 255 #[.int .i64 0, .int .i64 0, .string x.1, .string x.2]
 clear hTa h b1
 go_wp2_with fail
 generalize hw:w1.alloc (.cells #[.int .i64 0, .int .i64 0, .string x.1, .string x.2] 255)=w2 at*
 generalize hq:w1.heap.size=q at*
 clear hw hq
 refine(hTb _ hP1).out.mono ?_
 rintro e w3 ⟨rfl,b3⟩
 have hP3:=(hP1.below b3).below ((Below.refl _ w3).alloc (Nat.le_refl _) (.cells #[.int .i64 0, .int .i64 0, .string ⟨#[]⟩, .string ⟨#[]⟩] 255))
 have hb3:Below base w (w3.alloc (.cells #[.int .i64 0, .int .i64 0, .string ⟨#[]⟩, .string ⟨#[]⟩] 255)):=(hb1.trans (b3.mono (by have:=hb1.size;omega))).alloc (by have:=b3.size;have:=hb1.size;omega) _
 have hBx3:=(hBx.below b3 hBx.lt).alloc (.cells #[.int .i64 0, .int .i64 0, .string ⟨#[]⟩, .string ⟨#[]⟩] 255)
 have hBy:=Blk.new w3 255 #[.int .i64 0, .int .i64 0, .string ⟨#[]⟩, .string ⟨#[]⟩]
 have hltx:=hBx3.lt
 have hlty:=hBy.lt
 have x0:=hBx3.cell 0
 have x1:=hBx3.cell 1
 have x2:=hBx3.cell 2
 have x3:=hBx3.cell 3
 have y0:=hBy.cell 0
 have y1:=hBy.cell 1
 have y2:=hBy.cell 2
 have y3:=hBy.cell 3
 clear hTb hP1 hb1 hBx hBx3 hBy b3
 go_wp2_with fail
 refine(hC _ hP3 (by have:=hb3.size;omega)).out.mono ?_
 rintro e w4 ⟨rfl,hP4,b4⟩
 go_wp2_with fail
 go_ret2
 exact⟨rfl,hP4,hb3.trans b4⟩
theorem step_b0(g base:Nat)(y:Ent)(b:List Ent)(out:List Dl)(w:World)(h:PairAt w g base [] (y::b) out)(hg:base<=g)(hB:base<=w.heap.size)(hb0:b.length<=100000)(ho:out.length<=100000):
  Calls Tryz.prog 105 #[.pointer (some ⟨g,0,none⟩)] w (StepEnd true g base [] b (out++ [En.dNew y]) w):=by
 have hTa:=hid_calls (top_a0 h)
 have hTb:=fun W (hP:PairAt W g base [] (y::b) out)=>hid_calls (top_b hP (by omega))
 have hC:=fun W hP hBB=>hid_calls (only_b g base y [] b out W hP hg hBB hb0 ho)
 go_enter Tryz.func105,Tryz.ntmps105
 go_wp2_with fail
 refine hTa.out.mono ?_
 rintro e w1 ⟨rfl,b1⟩
 have hP1:=(h.below b1).below ((Below.refl _ w1).alloc (Nat.le_refl _) (.cells #[.int .i64 0, .int .i64 0, .string ⟨#[]⟩, .string ⟨#[]⟩] 255))
 have hb1:Below base w (w1.alloc (.cells #[.int .i64 0, .int .i64 0, .string ⟨#[]⟩, .string ⟨#[]⟩] 255)):=(b1.mono hB).alloc (by have:=b1.size;omega) _
 have hBx:=Blk.new w1 255 #[.int .i64 0, .int .i64 0, .string ⟨#[]⟩, .string ⟨#[]⟩]
 clear hTa h b1
 go_wp2_with fail
 generalize hw:w1.alloc (.cells #[.int .i64 0, .int .i64 0, .string ⟨#[]⟩, .string ⟨#[]⟩] 255)=w2 at*
 generalize hq:w1.heap.size=q at*
 clear hw hq
 refine(hTb _ hP1).out.mono ?_
 rintro e w3 ⟨rfl,b3⟩
 have hP3:=(hP1.below b3).below ((Below.refl _ w3).alloc (Nat.le_refl _) (.cells #[.int .i64 0, .int .i64 0, .string y.1, .string y.2] 255))
 have hb3:Below base w (w3.alloc (.cells #[.int .i64 0, .int .i64 0, .string y.1, .string y.2] 255)):=(hb1.trans (b3.mono (by have:=hb1.size;omega))).alloc (by have:=b3.size;have:=hb1.size;omega) _
 have hBx3:=(hBx.below b3 hBx.lt).alloc (.cells #[.int .i64 0, .int .i64 0, .string y.1, .string y.2] 255)
 have hBy:=Blk.new w3 255 #[.int .i64 0, .int .i64 0, .string y.1, .string y.2]
 have hltx:=hBx3.lt
 have hlty:=hBy.lt
 have x0:=hBx3.cell 0
 have x1:=hBx3.cell 1
 have x2:=hBx3.cell 2
 have x3:=hBx3.cell 3
 have y0:=hBy.cell 0
 have y1:=hBy.cell 1
 have y2:=hBy.cell 2
 have y3:=hBy.cell 3
 clear hTb hP1 hb1 hBx hBx3 hBy b3
 go_wp2_with fail
 refine(hC _ hP3 (by have:=hb3.size;omega)).out.mono ?_
 rintro e w4 ⟨rfl,hP4,b4⟩
 go_wp2_with fail
 go_ret2
 exact⟨rfl,hP4,hb3.trans b4⟩
theorem step_lt(g base:Nat)(x:Ent)(a:List Ent)(y:Ent)(b:List Ent)(out:List Dl)(w:World)(h:PairAt w g base (x::a) (y::b) out)(hg:base<=g)(hB:base<=w.heap.size)(ha:a.length<=100000)(hb0:b.length<=100000)(ho:out.length<=100000)(hlt:En.lt x.1 y.1=true):
  Calls Tryz.prog 105 #[.pointer (some ⟨g,0,none⟩)] w (StepEnd true g base a (y::b) (out++ [En.dOld x]) w):=by
 have hL:Op.bytesLess x.1.toList y.1.toList=true:=hlt
 clear hlt
 have hTa:=hid_calls (top_a h (by omega))
 have hTb:=fun W (hP:PairAt W g base (x::a) (y::b) out)=>hid_calls (top_b hP (by omega))
 have hC:=fun W hP hBB=>hid_calls (only_a g base x a (y::b) out W hP hg hBB ha ho)
 go_enter Tryz.func105,Tryz.ntmps105
 go_wp2_with fail
 refine hTa.out.mono ?_
 rintro e w1 ⟨rfl,b1⟩
 have hP1:=(h.below b1).below ((Below.refl _ w1).alloc (Nat.le_refl _) (.cells #[.int .i64 0, .int .i64 0, .string x.1, .string x.2] 255))
 have hb1:Below base w (w1.alloc (.cells #[.int .i64 0, .int .i64 0, .string x.1, .string x.2] 255)):=(b1.mono hB).alloc (by have:=b1.size;omega) _
 have hBx:=Blk.new w1 255 #[.int .i64 0, .int .i64 0, .string x.1, .string x.2]
 clear hTa h b1
 go_wp2_with fail
 generalize hw:w1.alloc (.cells #[.int .i64 0, .int .i64 0, .string x.1, .string x.2] 255)=w2 at*
 generalize hq:w1.heap.size=q at*
 clear hw hq
 refine(hTb _ hP1).out.mono ?_
 rintro e w3 ⟨rfl,b3⟩
 have hP3:=(hP1.below b3).below ((Below.refl _ w3).alloc (Nat.le_refl _) (.cells #[.int .i64 0, .int .i64 0, .string y.1, .string y.2] 255))
 have hb3:Below base w (w3.alloc (.cells #[.int .i64 0, .int .i64 0, .string y.1, .string y.2] 255)):=(hb1.trans (b3.mono (by have:=hb1.size;omega))).alloc (by have:=b3.size;have:=hb1.size;omega) _
 have hBx3:=(hBx.below b3 hBx.lt).alloc (.cells #[.int .i64 0, .int .i64 0, .string y.1, .string y.2] 255)
 have hBy:=Blk.new w3 255 #[.int .i64 0, .int .i64 0, .string y.1, .string y.2]
 have hltx:=hBx3.lt
 have hlty:=hBy.lt
 have x0:=hBx3.cell 0
 have x1:=hBx3.cell 1
 have x2:=hBx3.cell 2
 have x3:=hBx3.cell 3
 have y0:=hBy.cell 0
 have y1:=hBy.cell 1
 have y2:=hBy.cell 2
 have y3:=hBy.cell 3
 clear hTb hP1 hb1 hBx hBx3 hBy b3
 go_wp2_with fail
 refine(hC _ hP3 (by have:=hb3.size;omega)).out.mono ?_
 rintro e w4 ⟨rfl,hP4,b4⟩
 go_wp2_with fail
 go_ret2
 exact⟨rfl,hP4,hb3.trans b4⟩
theorem step_gt(g base:Nat)(x:Ent)(a:List Ent)(y:Ent)(b:List Ent)(out:List Dl)(w:World)(h:PairAt w g base (x::a) (y::b) out)(hg:base<=g)(hB:base<=w.heap.size)(ha:a.length<=100000)(hb0:b.length<=100000)(ho:out.length<=100000)(hlt:En.lt x.1 y.1=false)(hgt:En.lt y.1 x.1=true):
  Calls Tryz.prog 105 #[.pointer (some ⟨g,0,none⟩)] w (StepEnd true g base (x::a) b (out++ [En.dNew y]) w):=by
 have hL:Op.bytesLess x.1.toList y.1.toList=false:=hlt
 have hG:Op.bytesLess y.1.toList x.1.toList=true:=hgt
 clear hlt hgt
 have hTa:=hid_calls (top_a h (by omega))
 have hTb:=fun W (hP:PairAt W g base (x::a) (y::b) out)=>hid_calls (top_b hP (by omega))
 have hC:=fun W hP hBB=>hid_calls (only_b g base y (x::a) b out W hP hg hBB hb0 ho)
 go_enter Tryz.func105,Tryz.ntmps105
 go_wp2_with fail
 refine hTa.out.mono ?_
 rintro e w1 ⟨rfl,b1⟩
 have hP1:=(h.below b1).below ((Below.refl _ w1).alloc (Nat.le_refl _) (.cells #[.int .i64 0, .int .i64 0, .string x.1, .string x.2] 255))
 have hb1:Below base w (w1.alloc (.cells #[.int .i64 0, .int .i64 0, .string x.1, .string x.2] 255)):=(b1.mono hB).alloc (by have:=b1.size;omega) _
 have hBx:=Blk.new w1 255 #[.int .i64 0, .int .i64 0, .string x.1, .string x.2]
 clear hTa h b1
 go_wp2_with fail
 generalize hw:w1.alloc (.cells #[.int .i64 0, .int .i64 0, .string x.1, .string x.2] 255)=w2 at*
 generalize hq:w1.heap.size=q at*
 clear hw hq
 refine(hTb _ hP1).out.mono ?_
 rintro e w3 ⟨rfl,b3⟩
 have hP3:=(hP1.below b3).below ((Below.refl _ w3).alloc (Nat.le_refl _) (.cells #[.int .i64 0, .int .i64 0, .string y.1, .string y.2] 255))
 have hb3:Below base w (w3.alloc (.cells #[.int .i64 0, .int .i64 0, .string y.1, .string y.2] 255)):=(hb1.trans (b3.mono (by have:=hb1.size;omega))).alloc (by have:=b3.size;have:=hb1.size;omega) _
 have hBx3:=(hBx.below b3 hBx.lt).alloc (.cells #[.int .i64 0, .int .i64 0, .string y.1, .string y.2] 255)
 have hBy:=Blk.new w3 255 #[.int .i64 0, .int .i64 0, .string y.1, .string y.2]
 have hltx:=hBx3.lt
 have hlty:=hBy.lt
 have x0:=hBx3.cell 0
 have x1:=hBx3.cell 1
 have x2:=hBx3.cell 2
 have x3:=hBx3.cell 3
 have y0:=hBy.cell 0
 have y1:=hBy.cell 1
 have y2:=hBy.cell 2
 have y3:=hBy.cell 3
 clear hTb hP1 hb1 hBx hBx3 hBy b3
 go_wp2_with fail
 refine(hC _ hP3 (by have:=hb3.size;omega)).out.mono ?_
 rintro e w4 ⟨rfl,hP4,b4⟩
 go_wp2_with fail
 go_ret2
 exact⟨rfl,hP4,hb3.trans b4⟩
theorem step_eq(g base:Nat)(x:Ent)(a:List Ent)(y:Ent)(b:List Ent)(out:List Dl)(w:World)(h:PairAt w g base (x::a) (y::b) out)(hg:base<=g)(hB:base<=w.heap.size)(ha:a.length<=100000)(hb0:b.length<=100000)(ho:out.length<=100000)(hlt:En.lt x.1 y.1=false)(hgt:En.lt y.1 x.1=false):
  Calls Tryz.prog 105 #[.pointer (some ⟨g,0,none⟩)] w (StepEnd true g base a b (out++En.dBoth x y) w):=by
 have hL:Op.bytesLess x.1.toList y.1.toList=false:=hlt
 have hG:Op.bytesLess y.1.toList x.1.toList=false:=hgt
 clear hlt hgt
 have hTa:=hid_calls (top_a h (by omega))
 have hTb:=fun W (hP:PairAt W g base (x::a) (y::b) out)=>hid_calls (top_b hP (by omega))
 have hC:=fun W hP hBB=>hid_calls (both_any g base x y a b out W hP hg hBB ha hb0 ho)
 go_enter Tryz.func105,Tryz.ntmps105
 go_wp2_with fail
 refine hTa.out.mono ?_
 rintro e w1 ⟨rfl,b1⟩
 have hP1:=(h.below b1).below ((Below.refl _ w1).alloc (Nat.le_refl _) (.cells #[.int .i64 0, .int .i64 0, .string x.1, .string x.2] 255))
 have hb1:Below base w (w1.alloc (.cells #[.int .i64 0, .int .i64 0, .string x.1, .string x.2] 255)):=(b1.mono hB).alloc (by have:=b1.size;omega) _
 have hBx:=Blk.new w1 255 #[.int .i64 0, .int .i64 0, .string x.1, .string x.2]
 clear hTa h b1
 go_wp2_with fail
 generalize hw:w1.alloc (.cells #[.int .i64 0, .int .i64 0, .string x.1, .string x.2] 255)=w2 at*
 generalize hq:w1.heap.size=q at*
 clear hw hq
 refine(hTb _ hP1).out.mono ?_
 rintro e w3 ⟨rfl,b3⟩
 have hP3:=(hP1.below b3).below ((Below.refl _ w3).alloc (Nat.le_refl _) (.cells #[.int .i64 0, .int .i64 0, .string y.1, .string y.2] 255))
 have hb3:Below base w (w3.alloc (.cells #[.int .i64 0, .int .i64 0, .string y.1, .string y.2] 255)):=(hb1.trans (b3.mono (by have:=hb1.size;omega))).alloc (by have:=b3.size;have:=hb1.size;omega) _
 have hBx3:=(hBx.below b3 hBx.lt).alloc (.cells #[.int .i64 0, .int .i64 0, .string y.1, .string y.2] 255)
 have hBy:=Blk.new w3 255 #[.int .i64 0, .int .i64 0, .string y.1, .string y.2]
 have hltx:=hBx3.lt
 have hlty:=hBy.lt
 have x0:=hBx3.cell 0
 have x1:=hBx3.cell 1
 have x2:=hBx3.cell 2
 have x3:=hBx3.cell 3
 have y0:=hBy.cell 0
 have y1:=hBy.cell 1
 have y2:=hBy.cell 2
 have y3:=hBy.cell 3
 clear hTb hP1 hb1 hBx hBx3 hBy b3
 go_wp2_with fail
 refine(hC _ hP3 (by have:=hb3.size;omega)).out.mono ?_
 rintro e w4 ⟨rfl,hP4,b4⟩
 go_wp2_with fail
 go_ret2
 exact⟨rfl,hP4,hb3.trans b4⟩
end Go.Proofs.YtjoiajmbfbjnnaaGreatDoor
namespace Go.Proofs.YtjoiajmbfbjnnaaGreatDoor
open Go.RowKit Go.Shelf
attribute [local go_sem] Oper.semAt_some
def downs(l:List Ent):List (Int × Ent):=(List.range l.length).map fun i=>(((l.length-1-i:Nat):Int),l.getD (l.length-1-i) (⟨#[]⟩,⟨#[]⟩))
def encP(x:Int × Ent):Array Value:= #[.int .i64 x.1, .agg #[.string x.2.1, .string x.2.2]]
theorem downs_len(l:List Ent):(downs l).length=l.length:=by simp[downs]
theorem downs_rev(l:List Ent):(downs l).map (·.2)=l.reverse:=by
 refine List.ext_getElem (by simp[downs]) fun i h1 h2=> ?_
 simp only[downs,List.getElem_map,List.getElem_range,List.getElem_reverse]
 rw[List.getD_eq_getElem?_getD,List.getElem?_eq_getElem (by simp[downs]at h1;omega)];rfl
theorem downs_take(l:List Ent)(k:Nat)(hk:k<l.length):(downs l).take (k+1)=(downs l).take k++ [(((l.length-1-k:Nat):Int),l[l.length-1-k]'(by omega))]:=by
 rw[List.take_succ_eq_append_getElem (by rw[downs_len];exact hk)]
 congr 1
 simp only[downs,List.getElem_map,List.getElem_range,List.cons.injEq,and_true,Prod.mk.injEq,true_and]
 rw[List.getD_eq_getElem?_getD,List.getElem?_eq_getElem (by omega)];rfl
theorem back1_in(l Bn c:Nat)(A:Option Addr)(rs:List Ent)(hl:rs.length<=1000000)(J Jx:List (Int × Ent)->World->Prop)(Kp:World->World->Prop)
  (W:World) (hKr:∀W,Kp W W) (hKt:∀W1 W2 W3,Kp W1 W2->Kp W2 W3->Kp W1 W3) (hKc:∀W',Kp W W'->LS entE W' W'.heap.size A rs/\W'.cell? ⟨Bn,0,none⟩=some (.slice A rs.length c))
  (hY:∀pre x W1,J pre W1->pre.length<rs.length->YieldAt Fence.wide 0 Tryz.prog l (encP x) W1 fun e W'=>
   (e= .returned (.bool true)/\J (pre++ [x]) W'/\Kp W1 W')\/(e= .returned (.bool false)/\Jx (pre++ [x]) W')) (h0:J [] W):
  CallsIn Fence.wide 1 Tryz.prog 248 #[.func (.yield l) #[] #[], .pointer (some ⟨Bn,0,none⟩)] W fun e W'=>(∃v,e= .returned v)/\
   ((∃ys,ys=downs rs/\J ys W')\/(∃pre,pre <+: downs rs/\Jx pre W')):=by
 refine callsIn_of_wp Tryz.func248 rfl trivial ?_ rfl
 simp only[Tryz.ntmps248,List.size_toArray,List.length_cons,List.length_nil,Nat.reduceAdd,Nat.reduceSub,Array.replicate_succ,Array.replicate_zero,List.push_toArray,List.append_toArray,List.nil_append,List.cons_append]
 have hc0:=(hKc W (hKr W)).2
 gi_wp2
 gi_loopw [3] (fun i wr=>∃k:Nat,k<=rs.length/\i= .int .i64 ((rs.length:Int)-1-k)/\J ((downs rs).take k) wr/\Kp W wr) (fun i _=>(intOf i+1).toNat)
 case atStart=>exact⟨0,Nat.zero_le _,by simp,by simpa using h0,hKr W⟩
 case round=>
  obtain⟨k,hk,rfl,hJs,hkp⟩:=hrel
  obtain⟨hls,hbn⟩:=hKc _ hkp
  by_cases hlt:k<rs.length
  ·obtain⟨q,hq⟩:∃q,q=rs.length-1-k:=⟨_,rfl⟩
   have hq2:q<rs.length:=by omega
   obtain⟨b2,o2,rfl,hb2,g0,g1⟩:=hls.ent hq2
   have hdt:=downs_take rs k hlt
   have hpl:((downs rs).take k).length<rs.length:=by rw[List.length_take,downs_len];omega
   have hpx:(downs rs).take (k+1) <+: downs rs:=List.take_prefix _ _
   subst hq
   have hYk:=hY _ ((((rs.length-1-k:Nat):Int)),rs[rs.length-1-k]) _ hJs hpl
   unfold encP at hYk
   obtain⟨fn,tmps,assign,body,hyl,hR⟩:=hYk
   rw[<-hdt]at hR
   simp only at hyl
   have e:((rs.length-1-k:Nat):Int)=(rs.length:Int)-1-k:=by omega
   rw[e]at hyl
   have e3:((rs.length:Int)-1-k).toNat=rs.length-1-k:=by omega
   clear hdt e
   generalize rs[rs.length-1-k]=y at*
   generalize rs.length-1-k=q at*
   gi_wp2
   refine hR.mono ?_
   rintro e W3 (⟨rfl,hJ3,hk3⟩ | ⟨rfl,hJx3⟩)
   ·gi_wp2
    go_roundw
    case rel=>exact⟨k+1,by omega,by go_num,hJ3,hKt _ _ _ hkp hk3⟩
    case measure=>simp[intOf];omega
   ·gi_wp2
    refine bodyPost_ret (results_none rfl _ _ _) rfl ?_
    exact⟨⟨_,rfl⟩, .inr ⟨_,hpx,hJx3⟩⟩
  ·obtain rfl:k=rs.length:=by omega
   gi_wp2
   go_end0
   rw[List.take_of_length_le (by rw[downs_len];exact Nat.le_refl _)]at hJs
   exact⟨⟨_,rfl⟩, .inl ⟨_,rfl,hJs⟩⟩
attribute [local go_sem] Oper.semAt_some
theorem wpListIn_app1{F:Fence}{n:Nat}{P:Program}{w:World}{ops:Array Oper}{rest:List Oper}{o:Oper}{a:Act}{Q:Exit->Act->World->Prop}(hgd:o.guard=none)(s x:Operand)(t:TypeId)
  (ho:o.op= .call { callee:= .builtin .append,args:= #[s,x],argTypes:= #[t,t] })
  {base:Nat} {e:TypeId} {z:Value} {size bytes:Nat} (hE:EI P e z size bytes) (ht:P.underlying t=some (.slice e)) (hzs:z.cells.size=size) (hsz:0<size)
  {v:Value} {m:Nat} {xs:List Value} (hs:a.eval s=v) (hown:w.ownsRow base e size v m xs)
  {cs:Array Value} {te:TypeId} {gx:Nat} (hx:a.eval x= .slice (some ⟨gx,0,none⟩) 1 1) (hgx:gx=w.heap.size) (hl:cs.size=size) (h1:∀u∈cs.toList,u.oneCell'=true)
  (hb63:m+1<=maxLen) (hbytes:(m+1)*bytes<=140737488355328) (hbase:base<=w.heap.size)
  (h:∀v' w',w'.ownsRow base e size v' (m+1) (xs++cs.toList)->w.grownBy w' v.ownBlock->Below base w w'->wpListIn F n P ops Q rest (a.put o.dst v') w'):wpListIn F n P ops Q (o::rest) a (w.alloc (.cells cs te)):=by
 obtain⟨i,hi,hz0,hz1,hz2⟩:=hE
 subst hgx
 have hcell:∀j u,cs.toList[j]? =some u->(w.alloc (.cells cs te)).cell? ((⟨w.heap.size,0,none⟩:Addr).add j)=some u:=by
  intro j u hu
  have e1:((⟨w.heap.size,0,none⟩:Addr).add j)=⟨w.heap.size,j,none⟩:=by rw[Addr.add_lit];simp
  rw[e1,(Blk.new w te cs).cell j]
  simpa using hu
 refine wpListIn_append_own _ hgd s x t ho base e i z size bytes ht hi hz0 hz1 hz2 hzs hsz v m xs hs (hown.alloc _) ⟨w.heap.size,0,none⟩ 1 1 cs.toList hx (by simp[hl]) hcell h1 hb63 hbytes (by simp;omega) fun v' w' h2 h3 _=> ?_
 have hg:w.grownBy w' v.ownBlock:=(World.grownBy_alloc w _ _).trans h3
 exact h v' w' h2 hg ((Below.refl _ _).grown hg hbase fun k hk=>(hown.lt k hk).1)
theorem back_any(A:Option Addr)(n c:Nat)(w:World):
  Calls Tryz.prog 215 #[.slice A n c] w fun e w'=>e= .returned (.func (.func 248) #[] #[.pointer (some ⟨w.heap.size,0,none⟩)])/\w'=w.alloc (.cells #[.slice A n c] 28):=by
 go_enter Tryz.func215,Tryz.ntmps215
 go_wp2
 go_ret
 exact⟨rfl,rfl⟩
theorem blk_nc{W W':World}{g:Nat}{ty:TypeId}{cs:Array Value}{row:Option Nat}(h:Blk W g ty cs)(hg:W.grownBy W' row)(hr:∀r,row=some r->∃o:Obj,W.heap[r]? =some o/\o.isCells=false):Blk W' g ty cs:=by
 refine(hg.block g h.lt ?_).trans h
 intro e
 obtain⟨o,ho,hne⟩:=hr g e.symm
 unfold Blk at h
 rw[h]at ho;cases ho
 cases hne
theorem LO.nc{α:Type}{E:Enc α}{ty:TypeId}{W W':World}{base:Nat}{v:Value}{l:List α}{row:Option Nat}(h:LO E ty W base v l)(hg:W.grownBy W' row)(hr:∀r,row=some r->∃o:Obj,W.heap[r]? =some o/\o.isCells=false):LO E ty W' base v l:=
 h.keep hg fun r e=>by
  obtain⟨o,ho,hne⟩:=hr r e
  exact⟨o,ho,fun cs e=>by rw[e]at hne;cases hne⟩
def KpW(n₀ Bn:Nat)(W W':World):Prop:=Below n₀ W W'/\∀cs,Blk W Bn 28 cs->Blk W' Bn 28 cs
theorem kpW_t{n₀ Bn:Nat}{W1 W2 W3:World}(h:KpW n₀ Bn W1 W2)(k:KpW n₀ Bn W2 W3):KpW n₀ Bn W1 W3:=⟨h.1.trans k.1,fun cs hb=>k.2 cs (h.2 cs hb)⟩
theorem kpW_b{n₀ Bn:Nat}{w:World}(hn:n₀<=w.heap.size)(W:World)(l:Nat)(o o':Obj)(hl:w.heap.size<=l)(h:W.heap[l]? =some o)(hc:o.isCells=false)(hw:o.isWalk=false):KpW n₀ Bn W (W.putObj l o'):=
 ⟨belowK_b hn W l o o' hl h hc hw,fun cs hb=>by
  have hne:l≠Bn:=fun e=>by subst e;unfold Blk at hb;rw[h]at hb;injection hb with e;subst e;cases hc
  unfold Blk at*
  simp[World.putObj,hne,hb]⟩
theorem whole_any(A:Option Addr)(c:Nat)(l:List Ent)(hl:l.length<=100000)(w:World)(hr:LS entE w w.heap.size A l):
  Calls Tryz.prog 166 #[.slice A l.length c] w fun e w'=>∃v,e= .returned (.agg #[.pointer none,v])/\SideV w' w.heap.size v l/\Below w.heap.size w w':=by
 refine(callsIn_wide (n:=2)).1 ?_
 refine callsIn_of_wp_marks Tryz.func166 rfl trivial ?_ rfl
 simp only[Tryz.ntmps166,List.size_toArray,List.length_cons,List.length_nil,Nat.reduceAdd,Nat.reduceSub,Array.replicate_succ,Array.replicate_zero,List.push_toArray,List.append_toArray,List.nil_append,List.cons_append]
 gi_wp2_with (refine⟨trivial, ?_⟩;gi_at_call 215;refine(callsIn_wide.2 (back_any A l.length c _)).mono ?_;rintro e w' ⟨rfl,rfl⟩)
 have hB0:Below w.heap.size w (((w.alloc (.cells #[.pointer none, .slice none 0 0] 177)).alloc (.cells #[.pointer none, .slice none 0 0] 177)).alloc (.cells #[.slice A l.length c] 28)):=(((Below.refl _ w).alloc (Nat.le_refl _) _).alloc (by simp) _).alloc (by simp;omega) _
 have hR:=((Blk.new w 177 #[.pointer none, .slice none 0 0]).alloc (.cells #[.pointer none, .slice none 0 0] 177)).alloc (.cells #[.slice A l.length c] 28)
 have hS:=(Blk.new (w.alloc (.cells #[.pointer none, .slice none 0 0] 177)) 177 #[.pointer none, .slice none 0 0]).alloc (.cells #[.slice A l.length c] 28)
 have hV:=Blk.new ((w.alloc (.cells #[.pointer none, .slice none 0 0] 177)).alloc (.cells #[.pointer none, .slice none 0 0] 177)) 28 #[.slice A l.length c]
 simp only[World.size_alloc]at hS hV
 have hsz:(((w.alloc (.cells #[.pointer none, .slice none 0 0] 177)).alloc (.cells #[.pointer none, .slice none 0 0] 177)).alloc (.cells #[.slice A l.length c] 28)).heap.size=w.heap.size+1+1+1:=by simp
 obtain⟨wl,hwl⟩:∃wl,(((w.alloc (.cells #[.pointer none, .slice none 0 0] 177)).alloc (.cells #[.pointer none, .slice none 0 0] 177)).alloc (.cells #[.slice A l.length c] 28))=wl:=⟨_,rfl⟩
 rw[hwl]at hB0 hR hS hV hsz ⊢
 clear hwl
 have hseq:SeqStopsK Fence.wide 1 Tryz.prog 248 #[.pointer (some ⟨w.heap.size+1+1,0,none⟩)] encP (KpW w.heap.size (w.heap.size+1+1)) (fun ys=>ys=downs l) (fun pre=>pre <+: downs l) l.length wl:=by
  intro lp J Jx W hW hJ _ hY h0
  refine back1_in lp (w.heap.size+1+1) c A l (by omega) J Jx (KpW w.heap.size (w.heap.size+1+1)) W (fun W=>⟨Below.refl _ _,fun _ h=>h⟩) (fun _ _ _=>kpW_t) (fun W' hk=> ?_) hY h0
  have hbV:=hk.2 _ (hV.below hW (by omega))
  have hbW:=hB0.trans ((hW.mono (by omega)).trans hk.1)
  exact⟨(hr.below hbW).more hbW.size,hbV.cell 0⟩
 refine wpIn_rangeFunc_ownH rfl (by decide) (gf:=248) (lb:= #[.pointer (some ⟨w.heap.size+1+1,0,none⟩)]) rfl trivial (enters_of Tryz.func248 (by kernel_rfl) rfl)
  hseq kpW_t (kpW_b (by omega)) (Below.refl _ _) (fun _=>rfl)
  (fun pre W=>(∃v,Blk W (w.heap.size+1) 177 #[.pointer none,v]/\Blk W w.heap.size 177 #[.pointer none, .slice none 0 0]/\LO itemE 255 W w.heap.size v (pre.map (·.2)))/\Below w.heap.size w W)
  (fun _ _ _=>False)
  (OwnFrom.and (fun s W1 W2 row hs hg hr=>by obtain⟨v,a1,a2,a3⟩:=hs;exact⟨v,blk_nc a1 hg fun r e=>(hr r e).2,blk_nc a2 hg fun r e=>(hr r e).2,a3.nc hg fun r e=>(hr r e).2⟩) (ownFrom_below (Nat.le_refl _) (by omega)))
  (fun _ _ _ _ _ h _ _=>h)
  ⟨⟨_,hS,hR,LO.nil_ _ _⟩,hB0⟩
  (fun x a' W=>∃Bx,w.heap.size+1<Bx/\Blk W Bx 34 #[.string x.2.1, .string x.2.2]/\a'= { tmps:= #[.slice A l.length c,undef, .pointer (some ⟨w.heap.size,0,none⟩), .pointer (some ⟨w.heap.size+1,0,none⟩),undef, .pointer (some ⟨Bx,0,none⟩), .slice A l.length c, .func (.func 248) #[] #[.pointer (some ⟨w.heap.size+1+1,0,none⟩)], .int .i64 x.1, .agg #[.string x.2.1, .string x.2.2],undef,undef,undef,undef,undef,undef,undef,undef,undef,undef,undef],defers:= [] })
  (fun x a' _ W1 W2 row hs hg hr=>by obtain⟨Bx,b1,b2,b3⟩:=hs;exact⟨Bx,b1,blk_nc b2 hg fun r e=>(hr r e).2,b3⟩)
  ?assign ?body ?done ?stop
 case assign=>
  rintro lp pre x W K ⟨⟨v,a1,a2,a3⟩,hB⟩ hK
  unfold encP at*
  gi_wp2
  exact hK _ _ ((KeepsOthers.alloc _ _).from _) ⟨(Below.refl _ W).alloc hB.size _,fun _ h=>h.alloc _⟩ ⟨⟨v,a1.alloc _,a2.alloc _,a3.alloc _⟩,hB.alloc hB.size _⟩ ⟨W.heap.size,a1.lt,Blk.new W _ _,rfl⟩
 case body=>
  rintro lp pre x a' W hlp _ ⟨⟨v,a1,a2,a3⟩,hB⟩ ⟨Bx,hBx,hbx,rfl⟩ hlt
  have hl1:=a1.lt
  have hl2:=hbx.lt
  have c1:=a1.cell 1
  have x0:=hbx.cell 0
  have x1:=hbx.cell 1
  obtain⟨Av,cv,rfl⟩:=a3.form
  rw[List.length_map]at c1 a1 a3
  have hraw:=a3.raw (List.length_map _) (s:=4) rfl
  have hmap:(pre++ [x]).map (·.2)=pre.map (·.2)++ [x.2]:=by simp
  gi_wp2_with (gi_at_builtin;refine wpListIn_app1 rfl (.tmp 11) (.tmp 17) 175 rfl eiItem Tryz.underlying175 rfl (by decide) rfl hraw rfl (by simp) rfl (by simp[Value.oneCell']) (by unfold maxLen;omega) (by omega) hB.size ?_;intro v' w1 hown' hgrow hbel;obtain⟨A6,c6,rfl⟩:=own_form hown';have a1':=a1.grown hgrow (Ne.symm (own_blk_ne hraw a1 (by decide)));have d1:=a1'.cell 1;have f1:=a1'.frozen 1;have l1:=a1'.lt)
  have a2':=a2.grown hgrow (Ne.symm (own_blk_ne hraw a2 (by decide)))
  refine⟨KeepsOthers.from ((KeepsOthers.of_grownBy hgrow fun j o hj ho=> ?_).trans (KeepsOthers.setCell _ _ _)) _,⟨hbel.setCell (p:=⟨w.heap.size+1,1,none⟩) (by simp) _,fun cs hbn=> ?_⟩,⟨_,a1'.set_ 1 _,a2'.far (by simp) _, ?_⟩,(hB.trans hbel).setCell (p:=⟨w.heap.size+1,1,none⟩) (by simp) _⟩
  ·obtain⟨cs,hcs⟩:=own_obj hraw hj
   rw[hcs]at ho;cases ho;rfl
  ·exact(hbn.grown hgrow (Ne.symm (own_blk_ne hraw hbn (by decide)))).far (by simp) _
  ·rw[hmap]
   exact LO.set_ (LO.snoc (E:=itemE) (List.length_map _) rfl rfl hown') a1' (by decide)
 case done=>
  rintro D ys W hD rfl ⟨⟨v,a1,a2,a3⟩,hB⟩ hK
  have hl1:=a1.lt
  have hl2:=a2.lt
  have c0:=a1.cell 0
  have c1:=a1.cell 1
  have r0:=a2.cell 0
  have r1:=a2.cell 1
  have rf0:=a2.frozen 0
  have rf1:=a2.frozen 1
  have hrev:(downs l).map (·.2)=l.reverse:=downs_rev l
  rw[hrev]at a3
  obtain⟨Av,cv,rfl⟩:=a3.form
  have a3:SideV W w.heap.size (.slice Av l.reverse.length cv) l:=a3
  rw[List.length_reverse]at a1 a3 c1
  gi_wp2
  have hK1:=((KeepsOthers.setCell W ⟨w.heap.size,0,none⟩ (.pointer none)).trans (KeepsOthers.setCell _ ⟨w.heap.size,1,none⟩ (.slice Av l.length cv))).same D _ hK rfl
  have a2':=(a2.set_ 0 (.pointer none)).set_ 1 (.slice Av l.length cv)
  have a3':=LO.set_ (i:=1) (u:= .slice Av l.length cv) (LO.set_ (i:=0) (u:= .pointer none) (show LO itemE 255 W w.heap.size (.slice Av l.length cv) l.reverse from a3) a2 (by decide)) (a2.set_ 0 (.pointer none)) (by decide)
  have hB2:=(hB.setCell (p:=⟨w.heap.size,0,none⟩) (Nat.le_refl _) (.pointer none)).setCell (p:=⟨w.heap.size,1,none⟩) (Nat.le_refl _) (.slice Av l.length cv)
  generalize ((W.setCell ⟨w.heap.size,0,none⟩ (.pointer none)).setCell ⟨w.heap.size,1,none⟩ (.slice Av l.length cv))=W2 at*
  refine⟨by simp, .inl ⟨_,_,rfl,run_takeDeferred hK1, ?_⟩⟩
  have a2n:=blk_nc a2' (grownBy_putObj' _ D (.deferred none)) (fun r e=>by cases e;exact⟨_,hK1,rfl⟩)
  have a3n:=a3'.nc (grownBy_putObj' _ D (.deferred none)) (fun r e=>by cases e;exact⟨_,hK1,rfl⟩)
  have h0:=a2n.cell 0
  have h1:=a2n.cell 1
  refine⟨.agg #[.pointer none, .slice Av l.length cv], ?_,_,rfl,a3n,hB2.trans (belowK_b (w:=w) (Nat.le_refl _) W2 D _ _ (by omega) hK1 rfl rfl)⟩
  simp[results,Tryz.f166,go_sem,h0,h1]
 case stop=>
  rintro D k pre W hD hpre ⟨⟩
end Go.Proofs.YtjoiajmbfbjnnaaGreatDoor
namespace Go.Proofs.YtjoiajmbfbjnnaaGreatDoor
open Go.RowKit
def told(a b:List Ent):List Dl:=if En.right a&&En.right b then En.mergeD a b else []
theorem PairAt.out_{w:World}{g base:Nat}{a b:List Ent}{out:List Dl}(h:PairAt w g base a b out):∃v,w.cell? ⟨g,4,none⟩=some v/\LO dlE 92 w base v out:=by
 obtain⟨va,vb,vo,h1,h2,h3,h4⟩:=h
 exact⟨vo,h1.cell 4,h4⟩
def RoundEnd(g base:Nat)(a b:List Ent)(out:List Dl)(w:World)(e:Ending)(w':World):Prop:=
 ∃ (on:Bool) (a' b':List Ent) (out':List Dl),e= .returned (.tuple #[.bool on, .int .i64 0])/\PairAt w' g base a' b' out'/\Below base w w'/\out'++En.mergeD a' b'=out++En.mergeD a b/\
  (on=true->a'.length+b'.length<a.length+b.length)/\(on=false->a'= []/\b'= [])/\a'.length<=a.length/\b'.length<=b.length/\out'.length<=out.length+1
theorem lstep_any(g base:Nat)(a b:List Ent)(out:List Dl)(w:World)(h:PairAt w g base a b out)(hg:base<=g)(hB:base<=w.heap.size)(ha:a.length<=100000)(hb:b.length<=100000)(ho:out.length<=100000):
  Calls Tryz.prog 105 #[.pointer (some ⟨g,0,none⟩)] w (RoundEnd g base a b out w):=by
 cases a with
 |nil=>
  cases b with
  |nil=>
   refine(step_done g base out w h hB).mono ?_
   rintro e w' ⟨rfl,h1,h2⟩
   exact⟨false, [], [],out,rfl,h1,h2,rfl,fun e=>by(cases e),fun _=>⟨rfl,rfl⟩,by simp,by simp,by omega⟩
  |cons y b=>
   simp at hb
   refine(step_b0 g base y b out w h hg hB (by omega) ho).mono ?_
   rintro e w' ⟨rfl,h1,h2⟩
   exact⟨true, [],b,_,rfl,h1,h2,by rw[En.merge_b];simp,fun _=>by simp,fun e=>by(cases e),by simp,by simp,by simp⟩
 |cons x a=>
  simp at ha
  cases b with
  |nil=>
   refine(step_a0 g base x a out w h hg hB (by omega) ho).mono ?_
   rintro e w' ⟨rfl,h1,h2⟩
   exact⟨true,a, [],_,rfl,h1,h2,by rw[En.merge_a];simp,fun _=>by simp,fun e=>by(cases e),by simp,by simp,by simp⟩
  |cons y b=>
   simp at hb
   cases hlt:En.lt x.1 y.1 with
   |true=>
    refine(step_lt g base x a y b out w h hg hB (by omega) (by omega) ho hlt).mono ?_
    rintro e w' ⟨rfl,h1,h2⟩
    exact⟨true,a,y::b,_,rfl,h1,h2,by rw[En.merge_ab,hlt];simp,fun _=>by simp,fun e=>by(cases e),by simp,by simp,by simp⟩
   |false=>
    cases hgt:En.lt y.1 x.1 with
    |true=>
     refine(step_gt g base x a y b out w h hg hB (by omega) (by omega) ho hlt hgt).mono ?_
     rintro e w' ⟨rfl,h1,h2⟩
     exact⟨true,x::a,b,_,rfl,h1,h2,by rw[En.merge_ab,hlt,hgt];simp,fun _=>by simp,fun e=>by(cases e),by simp,by simp,by simp⟩
    |false=>
     refine(step_eq g base x a y b out w h hg hB (by omega) (by omega) ho hlt hgt).mono ?_
     rintro e w' ⟨rfl,h1,h2⟩
     have:=En.dBoth_len x y
     exact⟨true,a,b,_,rfl,h1,h2,by rw[En.merge_ab,hlt,hgt];simp,fun _=>by simp;omega,fun e=>by(cases e),by simp,by simp,by simp;omega⟩
theorem lists_no(A1 A2:Option Addr)(c1 c2:Nat)(a b:List Ent)(w:World)(h1:LS entE w w.heap.size A1 a)(h2:LS entE w w.heap.size A2 b)(ha:a.length<=1000)(hb:b.length<=1000)(hn:(En.right a&&En.right b)=false)(o:List Dl)(ho:o= []):
  Calls Tryz.prog 101 #[.slice A1 a.length c1, .slice A2 b.length c2] w (LEnd dlE 92 o w):=by
 subst ho
 have e1:=hid_calls (encode_any A1 c1 a w h1 (by omega))
 have e2:=fun W h=>hid_calls (encode_any A2 c2 b W h (by omega))
 cases hra:En.right a with
 |false=>
  rw[hra]at e1
  generalize En.right b=rb at*
  clear hra hn
  go_enter Tryz.func101,Tryz.ntmps101
  go_wp2_with fail
  refine e1.out.mono ?_
  rintro e w1 ⟨S1,rfl,b1⟩
  have r2:=h2.up b1
  unfold encErr
  go_wp2_with fail
  refine(e2 _ r2).out.mono ?_
  rintro e w2 ⟨S2,rfl,b2⟩
  unfold encErr
  go_wp2
  all_goals
   go_ret
   exact⟨_,rfl,LO.nil_ _ _,b1.trans (b2.mono b1.size)⟩
 |true=>
  rw[hra]at hn e1
  have hrb:En.right b=false:=by simpa using hn
  rw[hrb]at e2
  clear hra hn hrb
  go_enter Tryz.func101,Tryz.ntmps101
  go_wp2_with fail
  refine e1.out.mono ?_
  rintro e w1 ⟨S1,rfl,b1⟩
  have r2:=h2.up b1
  unfold encErr
  go_wp2_with fail
  refine(e2 _ r2).out.mono ?_
  rintro e w2 ⟨S2,rfl,b2⟩
  unfold encErr
  go_wp2
  all_goals
   go_ret
   exact⟨_,rfl,LO.nil_ _ _,b1.trans (b2.mono b1.size)⟩
theorem lists_yes(A1 A2:Option Addr)(c1 c2:Nat)(a b:List Ent)(w:World)(h1:LS entE w w.heap.size A1 a)(h2:LS entE w w.heap.size A2 b)(ha:a.length<=1000)(hb:b.length<=1000)(hra:En.right a=true)(hrb:En.right b=true)(o:List Dl)(ho:o=En.mergeD a b):
  Calls Tryz.prog 101 #[.slice A1 a.length c1, .slice A2 b.length c2] w (LEnd dlE 92 o w):=by
 have HO:=Lib.hid ho
 clear ho
 have e1:=hid_calls (encode_any A1 c1 a w h1 (by omega))
 have e2:=fun W h=>hid_calls (encode_any A2 c2 b W h (by omega))
 rw[hra]at e1
 rw[hrb]at e2
 have f1:=fun W h=>hid_calls (whole_any A1 c1 a (by omega) W h)
 have f2:=fun W h=>hid_calls (whole_any A2 c2 b (by omega) W h)
 clear hra hrb
 go_enter Tryz.func101,Tryz.ntmps101
 go_wp2_with fail
 refine e1.out.mono ?_
 rintro e w1 ⟨S1,rfl,b1⟩
 have r2:=h2.up b1
 have r1:=h1.up b1
 unfold encErr
 go_wp2_with fail
 refine(e2 _ r2).out.mono ?_
 rintro e w2 ⟨S2,rfl,b2⟩
 have q2:=r2.up b2
 have q1:=r1.up b2
 have bb2:=b1.trans (b2.mono b1.size)
 unfold encErr
 clear e1 e2 b1 b2 r1 r2 h1 h2
 go_wp2_with fail
 refine(f1 _ q1).out.mono ?_
 rintro e w3 ⟨v1,rfl,sa,b3⟩
 have q3:=q2.up b3
 have bb3:=bb2.trans (b3.mono bb2.size)
 go_wp2_with fail
 refine(f2 _ q3).out.mono ?_
 rintro e w4 ⟨v2,rfl,sb,b4⟩
 have sa4:SideV w4 w.heap.size v1 a:=LO.lower (LO.below sa b4) bb2.size
 have sb4:SideV w4 w.heap.size v2 b:=LO.lower sb bb3.size
 have bb4:=bb3.trans (b4.mono bb3.size)
 clear f1 f2 q1 q2 q3 sa sb b3 b4 bb2 bb3
 have hP0:PairAt (w4.alloc (.cells #[.pointer none,v1, .pointer none,v2, .slice none 0 0] 180)) w4.heap.size w.heap.size a b []:=
  ⟨v1,v2, .slice none 0 0,Blk.new w4 _ _,LO.alloc sa4 _,LO.alloc sb4 _,LO.nil_ _ _⟩
 have hb0:=bb4.alloc bb4.size (.cells #[.pointer none,v1, .pointer none,v2, .slice none 0 0] 180)
 obtain⟨A1',c1',rfl⟩:=LO.form sa4
 obtain⟨A2',c2',rfl⟩:=LO.form sb4
 rw[List.length_reverse,List.length_reverse]at hP0 hb0
 have hgg:w.heap.size<=w4.heap.size:=bb4.size
 clear sa4 sb4
 have hstep:=fun(a' b':List Ent) (out':List Dl) (W:World) (h:PairAt W w4.heap.size w.heap.size a' b' out') (hB:w.heap.size<=W.heap.size) (h1:a'.length<=1000) (h2:b'.length<=1000) (h3:out'.length<=100000)=>hid_calls (lstep_any w4.heap.size w.heap.size a' b' out' W h hgg hB (by omega) (by omega) h3)
 go_wp2
 generalize w4.heap.size=g at*
 go_loopg [10] (a.length+b.length+1) (fun k d wr=>∃ (on:Bool) (a' b':List Ent) (out':List Dl),d= .bool on/\PairAt wr g w.heap.size a' b' out'/\Below w.heap.size w wr/\Hid (o=out'++En.mergeD a' b')/\(on=false->a'= []/\b'= [])/\a'.length<=1000/\b'.length<=1000/\out'.length+k<=2001/\a'.length+b'.length+(if on then 1 else 0)<=k)
 case atStart=>exact⟨true,a,b, [],rfl,hP0,hb0,Lib.hid HO.out,fun e=>(by cases e),ha,hb,by simp;omega,by simp⟩
 case round=>
  obtain⟨on,a',b',out',rfl,hP,hbe,HJ,hfin,hla,hlb,hlo,hlk⟩:=hrel
  cases on with
  |true=>
   simp only[if_true]at hlk
   go_wp2_with fail
   refine(hstep a' b' out' _ hP hbe.size hla hlb (by omega)).out.mono ?_
   rintro e w5 ⟨on2,a2,b2,out2,rfl,hP2,hbe2,heq,hdec,hfin2,hl1,hl2,hl3⟩
   have HEQ:=Lib.hid heq
   clear heq
   cases on2 with
   |true=>
    have hdec:=hdec rfl
    clear hfin hfin2
    go_wp2
    go_roundg (a2.length+b2.length+1)
    case measure=>omega
    case rel=>exact⟨true,a2,b2,out2,rfl,hP2,hbe.trans hbe2,Lib.hid (by rw[HEQ.out, <-HJ.out]),fun e=>(by cases e),by omega,by omega,by omega,by simp⟩
   |false=>
    obtain⟨rfl,rfl⟩:=hfin2 rfl
    clear hdec hfin
    go_wp2
    go_roundg 0
    case measure=>omega
    case rel=>exact⟨false, [], [],out2,rfl,hP2,hbe.trans hbe2,Lib.hid (by rw[HEQ.out, <-HJ.out]),fun _=>⟨rfl,rfl⟩,by simp,by simp,by omega,by simp⟩
  |false=>
   obtain⟨rfl,rfl⟩:=hfin rfl
   obtain⟨vo,hc4,hown⟩:=hP.out_
   have hlt:=hP.lt
   have e:=HJ.out
   rw[En.merge_nil,List.append_nil]at e
   have HE:=Lib.hid e
   clear e hfin
   go_wp2
   go_ret
   exact⟨_,rfl,by rw[HE.out];exact hown,hbe⟩
theorem lists_any(A1 A2:Option Addr)(c1 c2:Nat)(a b:List Ent)(w:World)(h1:LS entE w w.heap.size A1 a)(h2:LS entE w w.heap.size A2 b)(ha:a.length<=1000)(hb:b.length<=1000):
  Calls Tryz.prog 101 #[.slice A1 a.length c1, .slice A2 b.length c2] w (LEnd dlE 92 (told a b) w):=by
 cases h:En.right a&&En.right b with
 |false=>exact lists_no A1 A2 c1 c2 a b w h1 h2 ha hb h _ (by unfold told;rw[h];rfl)
 |true=>
  have h':En.right a=true/\En.right b=true:=by simpa using h
  exact lists_yes A1 A2 c1 c2 a b w h1 h2 ha hb h'.1 h'.2 _ (by unfold told;rw[h];rfl)
def exA:List Ent:= [(⟨#[97]⟩,⟨#[49]⟩),(⟨#[98]⟩,⟨#[50]⟩)]
def exB:List Ent:= [(⟨#[98]⟩,⟨#[51]⟩),(⟨#[99]⟩,⟨#[52]⟩)]
def exD:List Dl:= [⟨⟨#[97]⟩,⟨#[49]⟩,⟨#[]⟩,true,false⟩,⟨⟨#[98]⟩,⟨#[50]⟩,⟨#[51]⟩,true,true⟩,⟨⟨#[99]⟩,⟨#[]⟩,⟨#[52]⟩,false,true⟩]
theorem right_exA:En.right exA=true:=by kernel_rfl
theorem right_exB:En.right exB=true:=by kernel_rfl
theorem told_ex:told exA exB=exD:=by kernel_rfl
theorem ap_ex:En.ap exA exD=exB:=by
 have h:=En.ap_there right_exA right_exB
 have e:En.mergeD exA exB=exD:=by have h:=told_ex;unfold told at h;rwa [right_exA,right_exB]at h
 rwa [e]at h
theorem ls_new{α:Type}(E:Enc α)(W:World)(ty:TypeId)(l:List α)(B:Nat)(hB:W.heap.size<B):LS E (W.alloc (.cells (E.cells l).toArray ty)) B (some ⟨W.heap.size,0,none⟩) l:=by
 refine⟨by rw[Enc.cells_length],fun _=>⟨_,rfl,by simpa using hB,fun j u hu=> ?_⟩⟩
 rw[Addr.add_lit,Nat.zero_add,(Blk.new W ty _).cell j]
 simpa using hu
theorem works14_any(w:World):Calls Tryz.prog 42 #[] w fun e w'=>e= .returned (.bool true)/\Below w.heap.size w w':=by
 have hA:=fun W B hB=>ls_new entE W 34 exA B hB
 have hB:=fun W B hB=>ls_new entE W 34 exB B hB
 have hL:=fun A1 A2 W h1 h2=>lists_any A1 A2 2 2 exA exB W h1 h2 (by decide) (by decide)
 have hAp:=fun A1 A2 c W h1 h2=>apply_any A1 2 exA A2 c exD W h1 h2 (by decide) (by decide)
 have hS:=fun A1 A2 c W h1 h2=>rsame_yes A1 A2 exB c 2 W h1 h2 (by decide)
 rw[told_ex]at hL
 rw[ap_ex]at hAp
 have HA:=Lib.hid hA
 have HB:=Lib.hid hB
 have HL:=Lib.hid hL
 have HAp:=Lib.hid hAp
 have HS:=Lib.hid hS
 clear hA hB hL hAp hS
 go_enter Tryz.func42,Tryz.ntmps42
 have hA0:LS entE ((w.alloc (.cells (entE.cells exA).toArray 34)).alloc (.cells (entE.cells exB).toArray 34)) ((w.alloc (.cells (entE.cells exA).toArray 34)).alloc (.cells (entE.cells exB).toArray 34)).heap.size (some ⟨w.heap.size,0,none⟩) exA:=
  LS.more (Reads.alloc (HA.out w (w.heap.size+1) (by omega)) (by simp) _) (by simp)
 have hB0:LS entE ((w.alloc (.cells (entE.cells exA).toArray 34)).alloc (.cells (entE.cells exB).toArray 34)) ((w.alloc (.cells (entE.cells exA).toArray 34)).alloc (.cells (entE.cells exB).toArray 34)).heap.size (some ⟨w.heap.size+1,0,none⟩) exB:=by
  have h:=HB.out (w.alloc (.cells (entE.cells exA).toArray 34)) (w.heap.size+2) (by simp)
  simp only[World.size_alloc]at h ⊢
  exact h
 have hbw0:Below w.heap.size w ((w.alloc (.cells (entE.cells exA).toArray 34)).alloc (.cells (entE.cells exB).toArray 34)):=((Below.refl _ _).alloc (Nat.le_refl _) _).alloc (by simp) _
 go_wp2_with fail
 refine Calls.mono (HL.out _ _ _ hA0 hB0) ?_
 intro e w2 h2
 obtain⟨A2,c2,rfl,ho2,hs2,hb2⟩:=h2.open_
 have hA2:=hA0.up hb2
 have hB2:=hB0.up hb2
 have hbw2:=hbw0.trans (hb2.mono hbw0.size)
 clear hA0 hB0 hbw0
 obtain⟨b,o,rfl,hq,g00,g01,g02,g03,g04⟩:=hs2.dl (k:=0) (by decide)
 obtain⟨b',o',hx,hq',g10,g11,g12,g13,g14⟩:=hs2.dl (k:=1) (by decide)
 obtain⟨b'',o'',hx',hq'',g20,g21,g22,g23,g24⟩:=hs2.dl (k:=2) (by decide)
 cases hx
 cases hx'
 go_wp2_with fail
 refine Calls.mono (HAp.out _ _ _ _ ⟨hA2,by decide,nofun⟩ hs2) ?_
 rintro e w3 ⟨A3,c3,rfl,hsv,hb3⟩
 have hbw3:=hbw2.trans (hb3.mono hbw2.size)
 have hB3:=hB2.up hb3
 have hs3:=hs2.up hb3
 clear g00 g01 g02 g03 g04 g10 g11 g12 g13 g14 g20 g21 g22 g23 g24
 go_wp2_with fail
 refine Calls.mono (HS.out _ _ _ _ hsv.ls hB3) ?_
 rintro e w4 ⟨rfl,hb4⟩
 have hbw4:=hbw3.trans (hb4.mono hbw3.size)
 have hs4:=hs3.up hb4
 obtain⟨b1,o1,hx1,hq1,g00,g01,g02,g03,g04⟩:=hs4.dl (k:=0) (by decide)
 obtain⟨b',o',hx,hq',g10,g11,g12,g13,g14⟩:=hs4.dl (k:=1) (by decide)
 obtain⟨b'',o'',hx',hq'',g20,g21,g22,g23,g24⟩:=hs4.dl (k:=2) (by decide)
 cases hx
 cases hx'
 cases hx1
 change w4.cell? ⟨b,o,none⟩=some (.string ⟨#[97]⟩)at g00
 change w4.cell? ⟨b,o+1,none⟩=some (.string ⟨#[49]⟩)at g01
 change w4.cell? ⟨b,o+2,none⟩=some (.string ⟨#[]⟩)at g02
 change w4.cell? ⟨b,o+3,none⟩=some (.bool true)at g03
 change w4.cell? ⟨b,o+4,none⟩=some (.bool false)at g04
 change w4.cell? ⟨b,o+5,none⟩=some (.string ⟨#[98]⟩)at g10
 change w4.cell? ⟨b,o+5+1,none⟩=some (.string ⟨#[50]⟩)at g11
 change w4.cell? ⟨b,o+5+2,none⟩=some (.string ⟨#[51]⟩)at g12
 change w4.cell? ⟨b,o+5+3,none⟩=some (.bool true)at g13
 change w4.cell? ⟨b,o+5+4,none⟩=some (.bool true)at g14
 change w4.cell? ⟨b,o+10,none⟩=some (.string ⟨#[99]⟩)at g20
 change w4.cell? ⟨b,o+10+1,none⟩=some (.string ⟨#[]⟩)at g21
 change w4.cell? ⟨b,o+10+2,none⟩=some (.string ⟨#[52]⟩)at g22
 change w4.cell? ⟨b,o+10+3,none⟩=some (.bool false)at g23
 change w4.cell? ⟨b,o+10+4,none⟩=some (.bool true)at g24
 simp only[show exD.length=3 from rfl]
 go_wp2
 go_ret
 exact⟨rfl,hbw4⟩
end Go.Proofs.YtjoiajmbfbjnnaaGreatDoor
namespace Go.Proofs.YtjoiajmbfbjnnaaGreatDoor
open Go.RowKit Go.Shelf
def junkL(q:UInt8)(k:Nat):List UInt8:= [110,111,32,112,97,103,101]++List.replicate k q
def junk(q:UInt8)(k:Nat):ByteArray:=⟨(junkL q k).toArray⟩
theorem junk_size(q:UInt8)(k:Nat):(junk q k).size=7+k:=by
 show(junkL q k).toArray.size=_
 unfold junkL
 simp
 omega
theorem junk_succ(q:UInt8)(k:Nat):junk q k++⟨#[q]⟩=junk q (k+1):=by
 unfold junk junkL
 apply ByteArray.ext
 simp[List.replicate_succ']
theorem junk_bad{q:UInt8}(hq:q=63\/q=33){i:Int}(hi:i<=16384):BadPg i (junkL q 249):=by
 refine⟨by unfold junkL;rw[List.length_append,List.length_replicate];rfl, ?_⟩
 rcases hq with rfl | rfl
 ·have e:Cp.num (((junkL 63 249).drop 4).take 4)=1634166079:=by decide +kernel
  rw[e];omega
 ·have e:Cp.num (((junkL 33 249).drop 4).take 4)=1634166049:=by decide +kernel
  rw[e];omega
end Go.Proofs.YtjoiajmbfbjnnaaGreatDoor
namespace Go.Proofs.YtjoiajmbfbjnnaaGreatDoor
open Go.RowKit Go.Shelf Go.Maps
def TrueEndH(w:World)(e:Ending)(w':World):Prop:=e= .returned (.bool true)/\Below w.heap.size w w'
theorem dharm_any(A1:Option Addr)(c1:Nat)(l1:List Ent)(A2:Option Addr)(c2:Nat)(l2:List Ent)(page:Int)(w:World)(h1:LS entE w w.heap.size A1 l1)(h2:LS entE w w.heap.size A2 l2)(hT:HT w):
  Calls Tryz.prog 7 #[.slice A1 l1.length c1, .slice A2 l2.length c2, .int .i64 page] w (TrueEndH w):=by
 have HW:=Lib.hid (works14_any w)
 have H1:=Lib.hid h1
 have H2:=Lib.hid h2
 have HHT:=Lib.hid hT
 have HO1:=Lib.hid (fun W h=>over14_any A1 l1.length c1 l1 rfl W h)
 have HO2:=Lib.hid (fun W h=>over14_any A2 l2.length c2 l2 rfl W h)
 have HD:=Lib.hid (fun W=>dfresh_any 2000 W)
 rw[show diskN 2000=2000 by decide]at HD
 clear h1 h2 hT
 go_enter Tryz.func7,Tryz.ntmps7
 go_wp2_with fail
 refine Calls.mono HW.out ?_
 rintro e w1 ⟨rfl,b1⟩
 have HB:=Lib.hid b1
 clear b1 HW
 go_wp2_with fail
 refine Calls.mono (HO1.out w1 ((H1.out.below HB.out).more HB.out.size)) ?_
 rintro e w1 ⟨o1,rfl,ho1,rfl⟩
 go_wp2_with fail
 refine Calls.mono (HO2.out w1 ((H2.out.below HB.out).more HB.out.size)) ?_
 rintro e w1 ⟨o2,rfl,ho2,rfl⟩
 clear HO1 HO2
 cases o1 with
 |true=>
  go_wp2
  go_ret
  exact⟨rfl,HB.out⟩
 |false=>
 cases o2 with
 |true=>
  go_wp2
  go_ret
  exact⟨rfl,HB.out⟩
 |false=>
 have hl1:=ho1 rfl
 have hl2:=ho2 rfl
 clear ho1 ho2
 go_wp2_with fail
 refine(HD.out _).mono ?_
 rintro e w2 ⟨d,rfl,hd,b2⟩
 have HFF:=Lib.hid (ffresh_any hd b2.size)
 have HB2:=Lib.hid (HB.out.trans (b2.mono HB.out.size))
 have HZ2:=Lib.hid b2.size
 clear hd b2 HD
 go_wp2_with fail
 refine HFF.out.mono ?_
 rintro e w3 ⟨f,rfl,hf,b3⟩
 have hB3:=HB2.out.trans (b3.mono HB2.out.size)
 have HS:Hid (Stg w f d 2000 0 (288*150+(288*150+12000)) noDisk 2 w3):=Lib.hid (stg_start (by decide) (by decide) hf (HHT.out.below hB3 HHT.out.1) HB.out.size HHT.out.1 (Nat.le_trans HZ2.out b3.size) hB3 (by decide))
 have HN:=Lib.hid (stg_new HS.out (by decide))
 have HLN:Hid (∀W,LO entE 34 W w.heap.size (.slice none ([]:List Ent).length 0) []):=Lib.hid fun W=>LO.nil_ _ _
 clear hf b3 hB3 HFF HB2 HZ2 HB HS
 go_wp2_with fail
 refine HN.out.mono ?_
 rintro e w4 ⟨t1,rfl,hbeg,bn⟩
 have HG:=Lib.hid (beg_grown 150 198 0 w.heap.size hbeg (by decide) (Tp.VerAt.none_ noDisk 0) (Nat.le_refl _) none 0 A1 c1 l1 (HLN.out w4) hbeg.below.size H1.out hl1 (Nat.zero_le _) (by decide) (by decide) (by omega))
 clear hbeg bn HN
 go_wp2_with fail
 refine HG.out.mono ?_
 rintro e w5 ⟨r1,P1,k1,Am1,cm1,rfl,hgr,htk1,hP1,hlo,hkp⟩
 obtain⟨m1,hm1⟩:∃z,z=grE [] l1:=⟨_,rfl⟩
 rw[<-hm1]at hgr hlo ⊢
 obtain⟨hri1,hml1⟩:=hgr.right
 have HRI1:=Lib.hid hri1
 have HL1:=Lib.hid hlo
 have HGR:=Lib.hid hgr
 clear hgr hlo hkp HG hm1 hri1
 have HFL:=Lib.hid (grn_flush HGR.out (by decide) (by omega) (by omega))
 clear HGR
 go_wp2_with fail
 refine HFL.out.mono ?_
 rintro e w6 ⟨rfl,dk1,hfl⟩
 replace HL1:=Lib.hid (hfl.keep _ _ _ _ _ _ HL1.out (.inl rfl))
 have HPG:=Lib.hid hfl.pages
 have HST:=Lib.hid hfl.stg
 have HV1:=Lib.hid hfl.ver
 clear hfl HFL
 go_wp2_with fail
 refine HPG.out.mono ?_
 rintro e w6 ⟨rfl,rfl⟩
 clear HPG
 have HN:=Lib.hid (stg_new HST.out (by decide))
 clear HST
 obtain⟨i1,hv1⟩:=HV1.out
 go_wp2_with fail
 refine HN.out.mono ?_
 rintro e w7 ⟨t2,rfl,hbeg,bn⟩
 replace HL1:=Lib.hid (LO.below HL1.out bn)
 have HG:=Lib.hid (beg_grown 150 378 150 w.heap.size hbeg (by decide) hv1 (by omega) Am1 cm1 A2 c2 l2 HL1.out hbeg.below.size H2.out hl2 (by omega) (by decide) (by decide) (by omega))
 clear hbeg bn HN
 go_wp2_with fail
 refine HG.out.mono ?_
 rintro e w8 ⟨r2,P2,k2,Am2,cm2,rfl,hgr,htk2,hP2,hlo,hkp⟩
 obtain⟨m2,hm2⟩:∃z,z=grE m1 l2:=⟨_,rfl⟩
 rw[<-hm2]at hgr hlo ⊢
 obtain⟨hri2,hml2⟩:=hgr.right
 have HRI2:=Lib.hid hri2
 replace HL1:=Lib.hid (hkp _ _ _ _ _ _ HL1.out (.inl rfl))
 have HL2:=Lib.hid hlo
 have HGR:=Lib.hid hgr
 clear hgr hlo hkp HG hm2 hri2
 clear hv1
 have HFL:=Lib.hid (grn_flushH HGR.out (by decide) (by omega) (by omega))
 clear HGR
 go_wp2_with fail
 refine HFL.out.mono ?_
 rintro e w9 ⟨rfl,dk2,hdon,hv2,hold,hkp⟩
 replace HL1:=Lib.hid (hkp _ _ _ _ _ _ HL1.out (.inl rfl))
 replace HL2:=Lib.hid (hkp _ _ _ _ _ _ HL2.out (.inl rfl))
 replace HV1:Hid (∃ids,Tp.VerAt dk2 r1 m1 k1 ids):=Lib.hid (by obtain⟨ids,hv⟩:=HV1.out;exact⟨ids,hold _ _ _ _ hv⟩)
 have HV2:=Lib.hid hv2
 have HDN:=Lib.hid hdon
 clear hdon hv2 hold hkp HFL H1 H2 HHT HLN
 go_wp2
 obtain⟨we,rfl⟩:∃z,z=w9:=⟨_,rfl⟩
 go_loopg [21] 249 (fun gg s21 wr=>∃ (k:Nat) (S:ByteArray),s21= .string S/\Hid (S=junk 33 k)/\S.size=7+k/\k<=249/\249-k<=gg/\Hid (Below we.heap.size we wr))
 case atStart=>exact⟨0,_,rfl,Lib.hid rfl,rfl,by omega,by omega,Lib.hid (Below.refl _ _)⟩
 case round=>
  obtain⟨k,S,rfl,HS,hsz,hk,hkg,HBB⟩:=hrel
  by_cases hk2:k<249
  ·have hlt:(S.size:Int)<256:=by omega
   have HS2:Hid (S++⟨#[33]⟩=junk 33 (k+1)):=Lib.hid (by rw[HS.out,junk_succ])
   have hsz2:(S++⟨#[33]⟩:ByteArray).size=7+(k+1):=by rw[HS2.out,junk_size]
   go_wp2
   go_roundg (249-(k+1))
   case measure=>omega
   case rel=>exact⟨k+1,_,rfl,HS2,hsz2,by omega,Nat.le_refl _,HBB⟩
  ·obtain rfl:k=249:=by omega
   have hlt:¬ (S.size:Int)<256:=by omega
   go_wp2_with fail
   generalize hat:min (max page 2) 1999=i
   have hi2:2<=i/\i<2000:=by omega
   clear hat
   have hst:(Value.string S)=str (junkL 33 249):=by rw[HS.out];rfl
   have HWR:=Lib.hid (donD_raw (HDN.out.below_ HBB.out) (by decide) hi2 (junkL 33 249) (junk_bad (.inr rfl) (by omega)))
   rw[<-hst]at HWR
   clear hst hsz hlt HDN
   refine Calls.mono HWR.out ?_
   rintro e w14 ⟨rfl,hhar,hkp⟩
   replace HL1:=Lib.hid (hkp _ _ _ _ _ _ (LO.below HL1.out HBB.out) (.inl rfl))
   replace HL2:=Lib.hid (hkp _ _ _ _ _ _ (LO.below HL2.out HBB.out) (.inl rfl))
   have HH:=Lib.hid hhar
   have HPG:=Lib.hid (harD_pages hhar)
   clear hhar hkp HWR HBB
   go_wp2_with fail
   refine HPG.out.mono ?_
   rintro e w15 ⟨rfl,rfl⟩
   have HNW:=Lib.hid (harD_new HH.out (by decide))
   clear HPG HH
   go_wp2_with fail
   refine Calls.mono HNW.out ?_
   rintro e w16 ⟨t',rfl,hbeg,bn⟩
   replace HL1:=Lib.hid (LO.below HL1.out bn)
   replace HL2:=Lib.hid (LO.below HL2.out bn)
   have HDF:=Lib.hid (begH_diff (ra:=r1) (rb:=r2) (A:=m1) (Bl:=m2) (ta:=k1) (tb:=k2) hbeg ⟨by omega,by omega⟩ HV1.out HV2.out)
   clear hbeg bn HNW HV1 HV2
   go_wp2_with fail
   refine Calls.mono HDF.out ?_
   rintro e w17 ⟨⟨B1,q1,rfl,hlo⟩ | rfl,hbw,hkp⟩
   ·obtain⟨d1,hd1⟩:∃z,z=En.mergeD m1 m2:=⟨_,rfl⟩
    rw[<-hd1]at hlo ⊢
    have hnd1:d1.length<=1000:=by rw[hd1];have:=En.merge_len _ m1 m2 (Nat.le_refl _);omega
    have HDd1:=Lib.hid hlo
    have HBW:=Lib.hid hbw
    replace HL1:=Lib.hid (hkp _ _ _ _ _ _ HL1.out (.inl rfl))
    replace HL2:=Lib.hid (hkp _ _ _ _ _ _ HL2.out (.inl rfl))
    have HWL:=Lib.hid (rlists_any Am1 Am2 cm1 cm2 m1 m2 w17 (LO.sv HL1.out).ls (LO.sv HL2.out).ls (by omega) (by omega))
    rw[show rtold m1 m2=En.mergeD m1 m2 by unfold rtold;rw[HRI1.out,HRI2.out];exact En.ref_merge ((En.right_iff _).1 HRI1.out).2 ((En.right_iff _).1 HRI2.out).2, <-hd1]at HWL
    clear hlo hbw hkp HDF hd1
    go_wp2_with fail
    refine Calls.mono HWL.out ?_
    intro e w18 hel
    obtain⟨Aw,cw,rfl,hlw,_,bw⟩:=hel.open_
    replace HDd1:=Lib.hid (LO.below HDd1.out bw)
    replace HBW:=Lib.hid (HBW.out.trans (bw.mono HBW.out.size))
    have HWw:=Lib.hid hlw
    clear hel hlw bw HWL
    have HSM:=Lib.hid (same14_yes B1 Aw d1 d1.length q1 cw rfl w18 (LO.sv HDd1.out).ls (LO.sv HWw.out).ls (by omega))
    go_wp2_with fail
    refine Calls.mono HSM.out ?_
    rintro e wa ⟨rfl,ba⟩
    replace HBW:=Lib.hid (HBW.out.trans (ba.mono HBW.out.size))
    clear ba HSM HDd1 HWw
    go_wp2
    go_ret
    exact⟨rfl,HBW.out⟩
   ·have HBW:=Lib.hid hbw
    clear hbw hkp HDF
    go_wp2
    go_ret
    exact⟨rfl,HBW.out⟩
end Go.Proofs.YtjoiajmbfbjnnaaGreatDoor
namespace Go.Proofs.YtjoiajmbfbjnnaaGreatDoor
open Go.RowKit Go.ChangeShapes Go.WideShapes Go.Deep
section
variable {H:Type}{enc:TypeId × Value->H}{P:Program}{w:World}{base:Nat}{spare:Nat->Bool}{held:Bool}
theorem open_slice_fields{t e:TypeId}{fs:Array Field}{fuel:Nat}{cs:List Value}{x:DataW H × List MemPlace}(ht:P.underlying t=some (.slice e))(he:P.underlying e=some (.struct fs))
  (hone:oneCellFields P fs=true) (hC:P.cellsOf e=fs.size) (h:DataW.trod enc P w base spare held fuel t cs=some x):
  (cs= [.slice none 0 0]/\x=(.nil, []))\/
  ∃ (a:Addr) (len cap m:Nat) (D:Nat->DataW H) (Pl:Nat->List MemPlace),cs= [.slice (some a) len cap]/\base<=a.block/\len<=cap/\cap<=maxLen/\m=(if spare a.block then cap else len)/\
   x=(.slice ((List.range len).map D) ((List.range (m-len)).map fun j=>D (len+j)),MemPlace.row a (m*fs.size)++(List.range m).flatMap Pl)/\
   ∀i,i<m->∃ (ys:List (DataW H × List MemPlace)) (n:Nat),D i= .agg (ys.map (·.1))/\Pl i=ys.flatMap (·.2)/\ys.length=fs.size/\
    ∀ (j:Nat) (f:Field),fs[j]? =some f->∃ (v:Value) (y:DataW H × List MemPlace),w.cell? (a.add (i*fs.size+j))=some v/\ys[j]? =some y/\DataW.trod enc P w base spare held n f.type [v]=some y:=by
 rcases open_slice ht h with h0 | ⟨a,len,cap,m,n,D,Pl,hcs,hb,hl,hm,hmm,hx,hi⟩
 ·exact .inl h0
 ·refine .inr ⟨a,len,cap,m,D,Pl,hcs,hb,hl,hm,hmm,by rw[hC]at hx;exact hx,fun i him=> ?_⟩
  obtain⟨cs',hc,ht'⟩:=hi i him
  rw[hC]at hc
  obtain⟨ys,n',hn',hy,hlen,hyl,hf⟩:=DataW.trod_struct he ht'
  obtain⟨_,hcl,hat⟩:=World.cells?_some hc
  simp only[Prod.mk.injEq]at hy
  refine⟨ys,n',hy.1,hy.2,hyl,fun j f hj=> ?_⟩
  obtain⟨ho,hk⟩:=hone_of hone j f hj
  have hjl:j<fs.size:=(Array.getElem?_eq_some_iff.1 hj).1
  have hcell:=hat j hjl
  have hv:cs'[j]? =some (cs'[j]'(by omega)):=List.getElem?_eq_getElem (by omega)
  have h1:=hf j f hj
  rw[ho,hk]at h1
  have hone':(cs'.drop j).take 1= [cs'[j]'(by omega)]:=by
   rw[List.drop_eq_getElem_cons (by omega)]
   rfl
  rw[hone']at h1
  have hys:ys[j]? =some (ys[j]'(by omega)):=List.getElem?_eq_getElem (by omega)
  refine⟨_,_, ?_,hys,h1.trans hys⟩
  rw[<-Go.Deep.add_add,hcell,hv]
end
section
variable {H:Type}{enc:TypeId × Value->H}
theorem open_entsE{W:World}{A:Option Addr}{len cap:Nat}{d:DataW H}{p:List MemPlace}(h:DataW.Trod enc Tryz.prog W 0 (fun _=>true) true 28 (.slice A len cap) d p):
  ∃l:List Ent,l.length=len/\LS entE W W.heap.size A l:=by
 obtain⟨fuel,hf⟩:=h
 rcases open_slice_fields Tryz.underlying28 Tryz.underlying34 (by kernel_rfl) (by kernel_rfl) hf with⟨hcs,_⟩ | ⟨a,len',cap',m,D,Pl,hcs,_,hl,hm,hmm,hx,hi⟩
 ·simp[Value.cells]at hcs
  obtain⟨rfl,rfl,rfl⟩:=hcs
  exact⟨[],rfl,LS.nil_⟩
 ·simp[Value.cells]at hcs
  obtain⟨rfl,rfl,rfl⟩:=hcs
  simp only[if_true]at hmm
  subst hmm
  have key:∀i,∃r:Ent,i<len->(W.cell? (a.add (i*2))=some (.string r.1)/\W.cell? (a.add (i*2+1))=some (.string r.2)):=by
   intro i
   by_cases hil:i<len
   ·obtain⟨ys,n,_,_,hys,hfld⟩:=hi i (by omega)
    obtain⟨v0,y0,hc0,_,t0⟩:=hfld 0 _ rfl
    obtain⟨v1,y1,hc1,_,t1⟩:=hfld 1 _ rfl
    obtain⟨x0,e0,_⟩:=DataW.trod_string Tryz.underlying9 t0
    obtain⟨x1,e1,_⟩:=DataW.trod_string Tryz.underlying9 t1
    simp at e0 e1
    subst e0 e1
    exact⟨⟨x0,x1⟩,fun _=>⟨hc0,hc1⟩⟩
   ·exact⟨⟨⟨#[]⟩,⟨#[]⟩⟩,fun h=>absurd h hil⟩
  obtain⟨f,hfs⟩:∃f:Nat->Ent,∀i,i<len->(W.cell? (a.add (i*2))=some (.string (f i).1)/\W.cell? (a.add (i*2+1))=some (.string (f i).2)):=⟨fun i=>Classical.choose (key i),fun i=>Classical.choose_spec (key i)⟩
  clear key
  refine⟨(List.range len).map f,by simp,⟨entE.cells_length _,fun hpos=>⟨a,rfl, ?_, ?_⟩⟩⟩
  ·have:=(hfs 0 (by simpa using hpos)).1
   have hb:=World.block_lt_of_cell? W _ this
   rwa [block_of_add]at hb
  ·intro j u hu
   have hjl:j<len*2:=by
    have:=(List.getElem?_eq_some_iff.1 hu).1
    rw[entE.cells_length]at this;simpa[entE]using this
   have h0:=entE.cells_at ((List.range len).map f) (j / 2) (by simp;omega) (j % 2) (by show j % 2<2;omega)
   have e:j / 2*entE.size+j % 2=j:=by show j / 2*2+j % 2=j;omega
   rw[e,hu]at h0
   simp only[List.getElem_map,List.getElem_range]at h0
   have hs:=hfs (j / 2) (by omega)
   have hm:j % 2=0\/j % 2=1:=by omega
   rcases hm with hm | hm
   ·rw[hm]at h0;injection h0 with h0;subst h0;rw[<-hs.1,show j / 2*2=j by omega]
   ·rw[hm]at h0;injection h0 with h0;subst h0;rw[<-hs.2,show j / 2*2+1=j by omega]
end
end Go.Proofs.YtjoiajmbfbjnnaaGreatDoor
namespace Go.Proofs.YtjoiajmbfbjnnaaGreatDoor
open Go.ChangeShapes Go.WideShapes Go.ChangeAt Go.RowKit
def laid3:List (String × DataW Unit):= [("rootstock/crc.halves",Rows.laid_rootstock_crc_halves),("unicode/utf8.acceptRanges",Rows.laid_unicode_utf8_acceptRanges),("unicode/utf8.first",Rows.laid_unicode_utf8_first)]
theorem halves_hv:(Rows.laid_rootstock_crc_halves:DataW Unit)= .agg (Cc.hv.map fun n:Nat=> .lit (.int .u32 (n:Int))):=by kernel_rfl
theorem ht_of{W:World}(h:laidMetH Tryz.prog laid3 W):HT W:=by
 rw[MakeChecks.laidMetH_plain _ _ _ (by kernel_rfl)]at h
 obtain⟨ps,⟨g,t,cs,fuel,p,q,hg,ht,hv,hd,_,_⟩,_⟩:=h
 obtain rfl:=Option.some.inj ((show Tryz.prog.globalNamed "rootstock/crc.halves" =some 0 by kernel_rfl).symm.trans hg)
 obtain rfl:=Option.some.inj ((show(Tryz.prog.globals[0]?).map (·.type)=some 326by kernel_rfl).symm.trans ht)
 obtain⟨xs,m,_,ex,_,hl,hel⟩:=DataW.trod_array Tryz.underlying326 hd
 have hc:∀r,r<16->W.cell? ⟨0,r,none⟩=some (.int .u32 ((Cc.hv.getD r 0:Nat):Int)):=by
  intro r hr
  have c5:Tryz.prog.cellsOf 275=1:=by kernel_rfl
  have hE:=hel r hr
  rw[c5,Nat.mul_one,List.getElem?_eq_getElem (by omega)]at hE
  obtain⟨z,e1,e2,_⟩:=DataW.trod_int Tryz.underlying275 hE
  have hlen:Cc.hv.length=16:=by decide
  rw[halves_hv]at ex
  have e3:(xs.map (·.1))=Cc.hv.map fun n:Nat=>(DataW.lit (.int .u32 (n:Int)):DataW Unit):=(DataW.agg.inj (Prod.mk.inj ex).1).symm
  have e4:(xs.map (·.1))[r]? =(Cc.hv.map fun n:Nat=>(DataW.lit (.int .u32 (n:Int)):DataW Unit))[r]? :=by rw[e3]
  rw[List.getElem?_map,List.getElem?_map,List.getElem?_eq_getElem (by omega:r<xs.length),List.getElem?_eq_getElem (by omega:r<Cc.hv.length),e2]at e4
  have hz:z=((Cc.hv.getD r 0:Nat):Int):=by
   simp only[Option.map_some,Option.some.injEq,DataW.lit.injEq,Lit.int.injEq,true_and]at e4
   rw[e4,List.getD,List.getElem?_eq_getElem (by omega:r<Cc.hv.length)];rfl
  rw[World.var?_cell hg hv r, <-hz]
  have:cs.toList[r]? =some (.int .u32 z):=by
   have h0:((cs.toList.drop r).take 1)[0]? =some (.int .u32 z):=by rw[e1];rfl
   simpa using h0
  simpa using this
 exact⟨World.block_lt_of_cell? W _ (hc 0 (by decide)),hc⟩
end Go.Proofs.YtjoiajmbfbjnnaaGreatDoor
