/- Part of this proof. -/
import Derived.Deep.Slices
import Derived.Deep.Fields
import Derived.ChangeSame
import Derived.ProofKit
import Derived.SliceStrings
import Derived.Deep.Grids
import Derived.Test.YtjoiajmbfbjnnaaGreatDoorM34
set_option maxRecDepth 100000
set_option maxHeartbeats 8000000
namespace Go.Proofs.YtjoiajmbfbjnnaaGreatDoor
open Go.RowKit Go.Shelf Go.Maps
section
variable {w0 W W':World}{f0 d0 n N r t:Nat}{disk:Tp.Disk}{P P' root:Int}{es:List Ent}{tok:Nat}{ids:List Int}
structure Stg(w0:World)(f0 d0 n N r:Nat)(disk:Tp.Disk)(P:Int)(W:World):Prop where
 ex:∃F:FFile,F.f=f0/\F.d=d0/\F.k+1000<maxLen/\FReady F n disk N r W/\w0.heap.size<=F.B
 low:LowD disk [] P
 p:2<=P/\P<=n
 below:Below w0.heap.size w0 W
structure Beg(w0:World)(f0 d0 n N r t:Nat)(disk:Tp.Disk)(P:Int)(W:World):Prop where
 ex:∃ (F:FFile) (B m:Nat),F.f=f0/\F.d=d0/\F.k+1000<maxLen/\FOn F n disk N/\TMd F B t m n (Rp.minus [(2,P-1)] []) disk r (Tp.start [] P) W/\F.d<B/\w0.heap.size<=m/\w0.heap.size<=F.B
 tl:w0.heap.size<=t
 low:LowD disk [] P
 p:2<=P/\P<=n
 below:Below w0.heap.size w0 W
theorem stg_new(h:Stg w0 f0 d0 n N r disk P W)(hN:N<1000000):
  Calls Tryz.prog 20 #[.pointer (some ⟨f0,0,none⟩), .slice none 0 0, .int .i64 P] W fun e w'=>∃t,e= .returned (.pointer (some ⟨t,0,none⟩))/\Beg w0 f0 d0 n N r t disk P w'/\Below W.heap.size W w':=by
 obtain⟨⟨F,rfl,rfl,hk,hr,hB⟩,hl,hp,hb⟩:=h
 refine(fr_begin hr hN none 0 [] P P (by unfold pagesN;omega) RS.nil_ (Nat.zero_le _) hl).mono ?_
 rintro e w' ⟨t,m,rfl,hM,⟨q1,q2,q3⟩,b⟩
 exact⟨t,rfl,⟨⟨F,_,m,rfl,rfl,hk,hr.on,hM,q3,Nat.le_trans hb.size q2,hB⟩,Nat.le_trans hb.size q1,hl,hp,hb.trans (b.mono hb.size)⟩,b⟩
structure FlE(w0:World)(f0 d0 n N r t:Nat)(disk:Tp.Disk)(P' root:Int)(es:List Ent)(tok:Nat)(W:World)(disk':Tp.Disk)(W':World):Prop where
 stg:Stg w0 f0 d0 n (N+600) r disk' P' W'
 ver:∃ids,Tp.VerAt disk' root es tok ids
 old:∀ (root':Int) (es':List Ent) (tok':Nat) (ids':List Int),Tp.VerAt disk root' es' tok' ids'->Tp.VerAt disk' root' es' tok' ids'
 keep:KeepL W W'
 pages:Calls Tryz.prog 30 #[.pointer (some ⟨t,0,none⟩)] W' fun e w'=>e= .returned (.int .i64 P')/\w'=W'
theorem FSt.newv{F:FFile}{a:TAd}{used:List Run}{σ:Tp.Pst}(h:FSt F n a used disk root σ ids es tok r W):Tp.VerAt (σ.view disk) root es tok ids/\∀x∈ids,0<x:=
 ⟨h.rt.ver fun _ _=>rfl,fun x hx=>by have:=Tp.use_range (room:=max (n:Int) 2) h.ap (h.rt.uses x hx);omega⟩
theorem ver_few{v:Int->Option Nd.Node}(h:Tp.VerAt v root es tok ids):5*ids.length<=6*tok+5/\es.length<=tok/\En.Srt es:=by
 rcases h with⟨_,rfl,rfl⟩ | ⟨hh,s,rfl,rfl,rfl,h1,h2,h3,h4⟩
 ·exact⟨by simp,by simp,List.Pairwise.nil⟩
 ·have q1:=Tp.root_lev h2
  have q2:=Tp.es_le_tok _ _ _ _ h2
  exact⟨by omega,by omega,((En.right_iff _).1 ((Tp.tr_good _ _).srt h2)).2⟩
theorem stg_start{B0:Nat}(hn:n<=16384)(h2:2<=n)(h:FAt W B0 f0 d0 0 (fresh n))(hT:HT W)(hB0:w0.heap.size<=B0)(h0:0<w0.heap.size)(hBW:B0<=W.heap.size)(hb:Below w0.heap.size w0 W)(hr:r<=900000000000):Stg w0 f0 d0 n 0 r noDisk 2 W:=by
 obtain⟨F,hFB,rfl,rfl,hFk,hA,hON⟩:=file_start hn h
 exact⟨⟨F,rfl,rfl,by rw[hFk];decide,⟨hON,⟨0,Int.le_refl _,by omega,hA⟩,hT,by omega,by rw[hFB];exact hBW⟩,by rw[hFB];exact hB0⟩,fun id x hx=>by(cases hx),⟨Int.le_refl _,by omega⟩,hb⟩
end
def TrueEnd21(w:World)(e:Ending)(w':World):Prop:=e= .returned (.bool true)/\Below w.heap.size w w'
section
variable {w0 W W':World}{f0 d0 n N t u D T K k b0 R0:Nat}{disk:Tp.Disk}{P root:Int}{es:List Ent}{tok:Nat}{ids:List Int}
structure Gng(w0:World)(f0 d0 n N t u:Nat)(disk:Tp.Disk)(P:Int)(D T K k b0 R0:Nat)(es:List Ent)(W:World):Prop where
 ex:∃ (F:FFile) (a:TAd),F.f=f0/\F.d=d0/\F.k+1000<maxLen/\w0.heap.size<=F.B/\FOn F n disk N/\a.t=t/\a.u=u/\InG w0 F n a (Rp.minus [(2,P-1)] []) disk P D T K k b0 R0 es W
 low:LowD disk [] P
 p:2<=P/\P+D<=n
theorem Gng.below(h:Gng w0 f0 d0 n N t u disk P D T K k b0 R0 es W):Below w0.heap.size w0 W:=by
 obtain⟨⟨F,a,_,_,_,_,_,_,_,h1⟩,_⟩:=h
 exact h1.below
theorem Gng.hb(h:Gng w0 f0 d0 n N t u disk P D T K k b0 R0 es W):b0<=W.heap.size:=by
 obtain⟨⟨F,a,_,_,_,_,_,_,_,h1⟩,_⟩:=h
 exact h1.hb
theorem Gng.up(h:Gng w0 f0 d0 n N t u disk P D T K k b0 R0 es W)(hb:Below W.heap.size W W'):Gng w0 f0 d0 n N t u disk P D T K k b0 R0 es W':=by
 obtain⟨⟨F,a,e1,e2,e3,e4,e5,e6,e7,h1⟩,h2,h3⟩:=h
 exact⟨⟨F,a,e1,e2,e3,e4,e5,e6,e7,h1.up hb⟩,h2,h3⟩
theorem Gng.skip(h:Gng w0 f0 d0 n N t u disk P D T K k b0 R0 es W):Gng w0 f0 d0 n N t u disk P D T K (k+1) b0 R0 es W:=by
 obtain⟨⟨F,a,e1,e2,e3,e4,e5,e6,e7,h1⟩,h2,h3⟩:=h
 exact⟨⟨F,a,e1,e2,e3,e4,e5,e6,e7,h1.skip⟩,h2,h3⟩
theorem Stg.less{r r':Nat}(h:Stg w0 f0 d0 n N r disk P W)(hr:r'<=r):Stg w0 f0 d0 n N r' disk P W:=by
 obtain⟨⟨F,e1,e2,e3,e4,e5⟩,h2,h3,h4⟩:=h
 exact⟨⟨F,e1,e2,e3,e4.less hr,e5⟩,h2,h3,h4⟩
theorem Stg.row{b:Nat}{v:Value}{l:List Int}(h:Stg w0 f0 d0 n N R0 disk P W)(ho:LO intE 3 W b v l)(hb:w0.heap.size<=b)(h0:0<w0.heap.size)(hg:W.grownBy W' v.ownBlock):Stg w0 f0 d0 n N R0 disk P W':=by
 obtain⟨⟨F,e1,e2,e3,e4,e5⟩,h2,h3,h4⟩:=h
 refine⟨⟨F,e1,e2,e3,e4.fr (Fr.of_grown hg) (fun g hgB hS=> ?_) (fun hS=> ?_),e5⟩,h2,h3,h4.trans ((Below.refl _ W).grown hg h4.size (fun k e=>Nat.le_trans hb (World.ownsRow.lt ho k e).1))⟩
 ·obtain⟨cs,hB⟩:=own_obj ho hS
  exact e4.nblk hB (by decide) (by decide) (by decide) (by decide) hgB
 ·have:=(World.ownsRow.lt ho 0 hS).1
  omega
theorem beg_tree(D T K:Nat)(h:Beg w0 f0 d0 n N (288*K+R0) t disk P W)(hn:n<=16384)(hv:Tp.VerAt disk root es tok ids)(htl:tok<=T)(hTK:T+K<=1000)(hPD:P+D<=n):
  Calls Tryz.prog 19 #[.pointer (some ⟨t,0,none⟩), .int .i64 root] W fun e w'=>∃u,e= .returned (.pointer (some ⟨u,0,none⟩))/\Gng w0 f0 d0 n N t u disk P D T K 0 w'.heap.size R0 es w'/\Below W.heap.size W w'/\W.heap.size<=u:=by
 obtain⟨⟨F,B,m,e1,e2,e3,e4,e5,e6,e7,e8⟩,h1,h2,h3,h4⟩:=h
 have hdB:F.B<=F.d:=by
  obtain⟨R,_,_,hA⟩:=e5.file
  exact hA.disk.le.1
 refine(fst_new (root:=root) e5 e6 hv (by omega) (fun x y h=>by obtain⟨cc,c1,c2⟩:=e4.c;exact(c2 x y h).2.1) hn h2).mono ?_
 rintro e w5 ⟨a,rfl,q1,q2,hst5,hu5,b5⟩
 refine⟨a.u,rfl,⟨⟨F,a,e1,e2,e3,e8,e4,q1,rfl,InG.start (hst5.less (by omega)) (by omega) (Int.le_refl _) (fun x hx=> ?_) (h4.trans (b5.mono h4.size))⟩,h2,h3.1,hPD⟩,b5,hu5⟩
 rcases hx with(rfl | rfl | rfl) | rfl
 ·rw[q1];exact h1
 ·rw[q2];exact e7
 ·omega
 ·exact Nat.le_trans h4.size hu5
theorem gng_put(h:Gng w0 f0 d0 n N t u disk P D T K k b0 R0 es W)(hk:k<K)(hT:T+K<=1000)(hD:6*(T+K)+90<=5*D){s v:ByteArray}(hm:En.may s v=true):
  Calls Tryz.prog 27 #[.pointer (some ⟨u,0,none⟩), .string s, .string v] W fun e W'=>e= .returned (.int .i64 0)/\Gng w0 f0 d0 n N t u disk P D T K (k+1) b0 R0 (En.put es s v) W'/\KeepL W W'/\∀g ty cs,b0<=g->Blk W g ty cs->Blk W' g ty cs:=by
 obtain⟨⟨F,a,e1,e2,e3,e4,e5,e6,rfl,h1⟩,h2,h3⟩:=h
 refine(ing_put h1 hk hT hD (nums_minus h3.1 []) h3.2 hm).mono ?_
 rintro e W' ⟨rfl,g1,g2,g3⟩
 exact⟨rfl,⟨⟨F,a,e1,e2,e3,e4,e5,e6,rfl,g1⟩,h2,h3⟩,g3,fun g ty cs hg hb=>g2.blk hb (fun hx=>by have:=h1.low g hx;omega)⟩
def GfEnd(w0:World)(f0 d0 n N t u:Nat)(disk:Tp.Disk)(P:Int)(D T K R0:Nat)(es:List Ent)(W:World)(e:Ending)(w':World):Prop:=
 e= .returned (.int .i64 0)/\∃ (disk':Tp.Disk) (root P':Int) (tok:Nat),FlE w0 f0 d0 n N R0 t disk P' root es tok W disk' w'/\tok<=T+K/\P'<=P+D/\
  Calls Tryz.prog 29 #[.pointer (some ⟨u,0,none⟩)] w' fun e w''=>e= .returned (.int .i64 root)/\w''=w'
theorem gng_flush(h:Gng w0 f0 d0 n N t u disk P D T K k b0 R0 es W)(hk:k<=K)(hN:N+2000<90000)(hT:T+K<=480):
  Calls Tryz.prog 28 #[.pointer (some ⟨t,0,none⟩)] W (GfEnd w0 f0 d0 n N t u disk P D T K R0 es W):=by
 obtain⟨⟨F,a,e1,e2,e3,e4,e5,rfl,rfl,h1⟩,hl,h3⟩:=h
 obtain⟨root,σ,ids,tok,hst,htk,hpg⟩:=h1.at_
 have hb:=h1.below
 have m2:=hst.rt.few
 have m3:=hst.mineLen
 have hpp:=hst.ap.pg
 refine(fst_flush2 (N:=N) (hst.less (r':=R0) (by omega)) e5 hN e3 (by omega)).mono ?_
 rintro e w' ⟨rfl,F',disk',hfl⟩
 obtain⟨f1,f2,f3,f4⟩:=hfl.same
 refine⟨rfl,disk',root,σ.pages,tok,⟨⟨⟨F',by rw[f2,e1],by rw[f3,e2],by rw[f4];decide,⟨?_,hfl.ready.file,hfl.ready.ht,hfl.ready.b0,hfl.ready.bw⟩,by rw[f1];exact e4⟩,hfl.low.nofree,⟨hpp.1,by omega⟩,hb.trans (hfl.below.mono e4)⟩,⟨ids,hfl.ver⟩,hfl.old,hfl.keepL, ?_⟩,by omega,hpg,troot_any a.u root 0 w' hfl.self⟩
 ·obtain⟨q1,q2,q3,q4⟩:=hfl.ready.on
  exact⟨q1,q2,⟨q3.1,by omega⟩,by omega⟩
 ·obtain⟨R,_,_,hA⟩:=hfl.ready.file
  obtain⟨m,k,D,hx⟩:=hfl.tx.txn hA (by obtain⟨cc,c1,c2⟩:=hfl.ready.on.c;exact c1.ok.size)
  exact tpages_any a.t m F'.f n k σ.free σ.pages D w' hx
end
theorem pgs_ids{lo:Nat}{w:World}{xs:List RawPg}{l:List (Int × Nat × Nd.Node)}(h:PgsAt lo w xs l):xs.map (·.id)=l.map (·.1):=by
 obtain⟨h1,h2⟩:=h
 refine List.ext_getElem (by simp[h1]) fun j a b=> ?_
 simp only[List.getElem_map]
 exact(h2 j (by simpa using a) (by simpa using b)).1
section
variable {w0 W W':World}{f0 d0 n N r t u:Nat}{disk:Tp.Disk}{P root:Int}{es:List Ent}{tok:Nat}{ids:List Int}
structure Bwk(w0:World)(f0 d0 n N r t u:Nat)(disk:Tp.Disk)(P root:Int)(es:List Ent)(tok:Nat)(ids:List Int)(W:World):Prop where
 ex:∃ (F:FFile) (a:TAd),F.f=f0/\F.d=d0/\F.k+1000<maxLen/\FOn F n disk N/\a.t=t/\a.u=u/\w0.heap.size<=a.m/\w0.heap.size<=F.B/\FSt F n a (Rp.minus [(2,P-1)] []) disk root (Tp.start [] P) ids es tok r W
 tl:w0.heap.size<=t
 low:LowD disk [] P
 p:2<=P/\P<=n
 below:Below w0.heap.size w0 W
theorem beg_open(h:Beg w0 f0 d0 n N r t disk P W)(hn:n<=16384)(hv:Tp.VerAt disk root es tok ids)(htl:tok<=200000):
  Calls Tryz.prog 19 #[.pointer (some ⟨t,0,none⟩), .int .i64 root] W fun e w'=>∃u,e= .returned (.pointer (some ⟨u,0,none⟩))/\Bwk w0 f0 d0 n N r t u disk P root es tok ids w'/\Below W.heap.size W w':=by
 obtain⟨⟨F,B,m,e1,e2,e3,e4,e5,e6,e7,e8⟩,h1,h2,h3,h4⟩:=h
 refine(fst_new (root:=root) e5 e6 hv htl (fun x y h=>by obtain⟨cc,c1,c2⟩:=e4.c;exact(c2 x y h).2.1) hn h2).mono ?_
 rintro e w5 ⟨a,rfl,q1,q2,hst5,hu5,b5⟩
 exact⟨a.u,rfl,⟨⟨F,a,e1,e2,e3,e4,q1,rfl,by rw[q2];exact e7,e8,hst5⟩,h1,h2,h3,h4.trans (b5.mono h4.size)⟩,b5⟩
def BwEnd(w0:World)(f0 d0 n N r t:Nat)(disk:Tp.Disk)(P:Int)(ids:List Int)(W:World)(e:Ending)(w':World):Prop:=
 ∃A c xs,e= .returned (.tuple #[.slice A xs.length c, .int .i64 0])/\LO pgE 60 w' W.heap.size (.slice A xs.length c) xs/\xs.map (·.id)=ids/\Beg w0 f0 d0 n N r t disk P w'/\KeepL W w'/\W.heap.size<=w'.heap.size
theorem bwk_walk(h:Bwk w0 f0 d0 n N (r+2*ids.length) t u disk P root es tok ids W):
  Calls Tryz.prog 31 #[.pointer (some ⟨u,0,none⟩)] W (BwEnd w0 f0 d0 n N r t disk P ids W):=by
 obtain⟨⟨F,a,e1,e2,e3,e4,rfl,rfl,e7,e8,hst⟩,h1,h2,h3,h4⟩:=h
 have hdB:F.B<=F.d:=by
  obtain⟨R,_,_,hA⟩:=hst.on.tm.file
  exact hA.disk.le.1
 refine(fst_walk hst).mono ?_
 rintro e w' ⟨A,c,xs,l,rfl,q1,q2,q3,q4,q5⟩
 refine⟨A,c,xs,rfl,q1,(pgs_ids q2).trans q3.ids_,⟨⟨F,a.B,a.m,e1,e2,e3,e4,q4.on.tm,q4.hd,e7,e8⟩,h1,h2,h3,h4.trans (q5.low h4.size (fun k hk=> ?_))⟩,hst.keepL (q5.more fun k hk=> .inl hk),q5.size⟩
 rcases hk with rfl | rfl | rfl
 ·exact h1
 ·exact e7
 ·omega
theorem Beg.row{b:Nat}{v:Value}{l:List Int}(h:Beg w0 f0 d0 n N r t disk P W)(ho:LO intE 3 W b v l)(hw:w0.heap.size<=b)(h0:0<w0.heap.size)(hg:W.grownBy W' v.ownBlock):Beg w0 f0 d0 n N r t disk P W':=by
 obtain⟨⟨F,B,m,e1,e2,e3,e4,e5,e6,e7,e8⟩,h1,h2,h3,h4⟩:=h
 have hf:=Fr.of_grown hg
 have hr:=FReady.of e5 e4
 have hnb:∀g,F.Blks g->¬v.ownBlock=some g:=fun g hgB hS=>by
  obtain⟨cs,hB⟩:=own_obj ho hS
  exact hr.nblk hB (by decide) (by decide) (by decide) (by decide) hgB
 have h00:¬v.ownBlock=some 0:=fun hS=>by
  have:=(World.ownsRow.lt ho 0 hS).1
  omega
 obtain⟨t1,t2,t3,t4,⟨g1,g2,D,g3,g4⟩,t6,R,r1,r2,r3⟩:=e5
 refine⟨⟨F,B,m,e1,e2,e3,e4,⟨⟨t1.1,t1.2.1,Nat.le_trans t1.2.2 hf.size⟩,t2,t3,t4.fr hf h00,⟨g1,g2,D,g3.fr hf (fun k a o hk=> ?_),g4⟩,t6,R,r1,r2,r3.fr hf hnb⟩,e6,e7,e8⟩,h1,h2,h3,h4.trans ((Below.refl _ W).grown hg h4.size (fun k e=>Nat.le_trans hw (World.ownsRow.lt ho k e).1))⟩
 obtain⟨cs,hcs⟩:=own_obj ho a
 have e:o= .cells cs 3:=by have:=hk.symm.trans hcs;injection this
 subst e
 exact⟨fun cs' e=>by injection e with _ e;revert e;decide,fun cs' e=>by injection e with _ e;revert e;decide,fun cs' e=>by injection e with _ e;revert e;decide,fun cs' e=>by injection e with _ e;revert e;decide,fun _ _ e=>by cases e⟩
theorem Beg.less{r':Nat}(h:Beg w0 f0 d0 n N r t disk P W)(hr:r'<=r):Beg w0 f0 d0 n N r' t disk P W:=by
 obtain⟨⟨F,B,m,e1,e2,e3,e4,e5,e6⟩,h1,h2,h3,h4⟩:=h
 exact⟨⟨F,B,m,e1,e2,e3,e4,e5.less hr,e6⟩,h1,h2,h3,h4⟩
end
structure AllOf(v:Int->Option Nd.Node)(rs all:List Int):Prop where
 inn:∀x∈all,∃root es tok ids,root∈rs/\Tp.VerAt v root es tok ids/\x∈ids/\∀y∈ids,y∈all
 root:∀x∈rs,x=0\/x∈all
theorem AllOf.nil(v:Int->Option Nd.Node):AllOf v [] []:=⟨fun _ h=>absurd h List.not_mem_nil,fun _ h=>absurd h List.not_mem_nil⟩
theorem AllOf.snoc{v:Int->Option Nd.Node}{rs all:List Int}{root:Int}{es:List Ent}{tok:Nat}{ids:List Int}(h:AllOf v rs all)(hv:Tp.VerAt v root es tok ids):AllOf v (rs++ [root]) (all++ids):=by
 refine⟨fun x hx=> ?_,fun x hx=> ?_⟩
 ·rcases List.mem_append.1 hx with hx | hx
  ·obtain⟨r,e,t,i,h1,h2,h3,h4⟩:=h.inn x hx
   exact⟨r,e,t,i,List.mem_append_left _ h1,h2,h3,fun y hy=>List.mem_append_left _ (h4 y hy)⟩
  ·exact⟨root,es,tok,ids,by simp,hv,hx,fun y hy=>List.mem_append_right _ hy⟩
 ·rcases List.mem_append.1 hx with hx | hx
  ·exact(h.root x hx).imp_right (fun a=>List.mem_append_left _ a)
  ·rw[List.mem_singleton.1 hx]
   rcases hv with⟨a,_,_⟩ | ⟨hh,s,a,b,c,d,e,f⟩
   ·exact .inl a
   ·refine .inr (List.mem_append_right _ ?_)
    subst a
    rw[<-b]
    exact Tp.tr_id (by assumption)
end Go.Proofs.YtjoiajmbfbjnnaaGreatDoor
namespace Mk
open Nd En Tp
def push:List Int->List Int->List Int->List Int × List Int
 |met,st, []=>(met,st)
 |met,st,i::r=>if i≠0/\i ∉ met then push (met++ [i]) (st++ [i]) r else push met st r
def readM(v:Int->Option Node)(met st:List Int)(id:Int):Option (List Int × List Int):=(v id).map fun n=>push met st n.kids
def run(v:Int->Option Node):Nat->List Int->List Int->List Int->Option (List Int)
 |0,_,_,_=>none
 |f+1,met,st,out=>match st.getLast? with
  |none=>some out
  |some id=>match readM v met st.dropLast id with
   |none=>none
   |some (met',st')=>run v f met' st' (out++ [id])
structure Inv(v:Int->Option Node)(C:Int->Prop)(roots met st out:List Int):Prop where
 mem:∀x,x∈met ↔ x∈out\/x∈st
 nd:(out++st).Nodup
 inn:∀x∈met,C x
 kid:∀x∈out,∀n,v x=some n->∀k∈n.kids,k=0\/k∈met
 root:∀x∈roots,x=0\/x∈met
theorem push_spec:∀ (l met st:List Int),∃new,push met st l=(met++new,st++new)/\new.Nodup/\(∀x∈new,x∈l/\x≠0/\x ∉ met)/\∀x∈l,x=0\/x∈met\/x∈new
 | [],met,st=>⟨[],by simp[push],List.nodup_nil,fun x h=>absurd h List.not_mem_nil,fun x h=>absurd h List.not_mem_nil⟩
 |i::r,met,st=>by
  unfold push
  split
  ·rename_i h
   obtain⟨new,e,h1,h2,h3⟩:=push_spec r (met++ [i]) (st++ [i])
   refine⟨i::new,by rw[e];simp,List.nodup_cons.2 ⟨fun hm=>(h2 i hm).2.2 (by simp),h1⟩,fun x hx=> ?_,fun x hx=> ?_⟩
   ·rcases List.mem_cons.1 hx with rfl | hx
    ·exact⟨List.mem_cons_self,h.1,h.2⟩
    ·obtain⟨a,b,c⟩:=h2 x hx
     exact⟨List.mem_cons_of_mem _ a,b,fun hm=>c (List.mem_append_left _ hm)⟩
   ·rcases List.mem_cons.1 hx with rfl | hx
    ·exact .inr (.inr List.mem_cons_self)
    ·rcases h3 x hx with a | a | a
     ·exact .inl a
     ·rcases List.mem_append.1 a with a | a
      ·exact .inr (.inl a)
      ·exact .inr (.inr (by rw[List.mem_singleton.1 a];exact List.mem_cons_self))
     ·exact .inr (.inr (List.mem_cons_of_mem _ a))
  ·rename_i h
   obtain⟨new,e,h1,h2,h3⟩:=push_spec r met st
   refine⟨new,e,h1,fun x hx=>⟨List.mem_cons_of_mem _ (h2 x hx).1,(h2 x hx).2⟩,fun x hx=> ?_⟩
   rcases List.mem_cons.1 hx with rfl | hx
   ·by_cases h0:x=0
    ·exact .inl h0
    ·exact .inr (.inl (by
      by_cases hm:x∈met
      ·exact hm
      ·exact absurd ⟨h0,hm⟩ h))
   ·exact h3 x hx
theorem inv_start{v:Int->Option Node}{C:Int->Prop}(roots:List Int)(hC:∀x∈roots,x=0\/C x):∃new,push [] [] roots=(new,new)/\Inv v C roots new new []:=by
 obtain⟨new,e,h1,h2,h3⟩:=push_spec roots [] []
 refine⟨new,by rw[e];simp,⟨fun x=>by simp,by simpa using h1,fun x hx=> ?_,fun x hx=>absurd hx List.not_mem_nil,fun x hx=> ?_⟩⟩
 ·obtain⟨a,b,_⟩:=h2 x hx
  exact(hC x a).resolve_left b
 ·rcases h3 x hx with a | a | a
  ·exact .inl a
  ·exact absurd a List.not_mem_nil
  ·exact .inr a
theorem Inv.step{v:Int->Option Node}{C:Int->Prop}{roots met st out:List Int}{id:Int}{n:Node}(h:Inv v C roots met (st++ [id]) out)(hv:v id=some n)(hk:∀k∈n.kids,k=0\/C k):∃met' st',readM v met st id=some (met',st')/\Inv v C roots met' st' (out++ [id]):=by
 obtain⟨new,e,h1,h2,h3⟩:=push_spec n.kids met st
 refine⟨met++new,st++new,by unfold readM;rw[hv];show some (push met st n.kids)=_;rw[e],⟨fun x=> ?_, ?_,fun x hx=> ?_,fun x hx n' hn' k hk'=> ?_,fun x hx=> ?_⟩⟩
 ·rw[List.mem_append,h.mem,List.mem_append,List.mem_append,List.mem_append]
  simp only[List.mem_singleton]
  constructor
  ·rintro((a | a | a) | a)
   ·exact .inl (.inl a)
   ·exact .inr (.inl a)
   ·exact .inl (.inr a)
   ·exact .inr (.inr a)
  ·rintro((a | a) | (a | a))
   ·exact .inl (.inl a)
   ·exact .inl (.inr (.inr a))
   ·exact .inl (.inr (.inl a))
   ·exact .inr a
 ·have hnd:=h.nd
  have hp:(out++ [id]++(st++new)).Perm ((out++(st++ [id]))++new):=by
   rw[List.append_assoc,List.append_assoc]
   refine List.Perm.append_left _ ?_
   rw[<-List.append_assoc]
   exact(List.perm_append_comm).append_right _
  rw[hp.nodup_iff,List.nodup_append]
  refine⟨hnd,h1,fun x hx y hy e=> ?_⟩
  subst e
  refine(h2 x hy).2.2 ((h.mem x).2 ?_)
  rcases List.mem_append.1 hx with a | a
  ·exact .inl a
  ·exact .inr a
 ·rcases List.mem_append.1 hx with a | a
  ·exact h.inn x a
  ·obtain⟨b,c,_⟩:=h2 x a
   exact(hk x b).resolve_left c
 ·rcases List.mem_append.1 hx with a | a
  ·rcases h.kid x a n' hn' k hk' with b | b
   ·exact .inl b
   ·exact .inr (List.mem_append_left _ b)
  ·obtain rfl:=List.mem_singleton.1 a
   rw[hv]at hn'
   cases hn'
   rcases h3 k hk' with b | b | b
   ·exact .inl b
   ·exact .inr (List.mem_append_left _ b)
   ·exact .inr (List.mem_append_right _ b)
 ·rcases h.root x hx with a | a
  ·exact .inl a
  ·exact .inr (List.mem_append_left _ a)
theorem tr_kids{v:Int->Option Node} :∀ {h:Nat} {lo hi:Option Str} {s:Sub},Tr v h lo hi s->∀x∈s.ids,∃n,v x=some n/\∀k∈n.kids,k∈s.ids
 |0,_,_,s,hs,x,hx=>by
  obtain⟨a,b,_⟩:=hs
  rw[b]at hx
  obtain rfl:x=s.id:=by simpa using hx
  exact⟨_,a,fun k hk=>by simp[mkLeaf]at hk⟩
 |h+1,_,_,s,hs,x,hx=>by
  obtain⟨subs,keys,a,b,c,d,e,f,g⟩:=hs
  rw[c]at hx ⊢
  rcases List.mem_cons.1 hx with rfl | hx
  ·refine⟨_,a,fun k hk=> ?_⟩
   obtain⟨t,ht,rfl⟩:=List.mem_map.1 (show k∈subs.map (·.id)from hk)
   obtain⟨l,h',hp⟩:=chain_all g t ht
   exact List.mem_cons_of_mem _ (mem_ids ht (tr_id hp))
  ·unfold ids_ at hx
   obtain⟨t,ht,hx⟩:=List.mem_flatMap.1 hx
   obtain⟨l,h',hp⟩:=chain_all g t ht
   obtain⟨n,n1,n2⟩:=tr_kids hp x hx
   exact⟨n,n1,fun k hk=>List.mem_cons_of_mem _ (mem_ids ht (n2 k hk))⟩
theorem tr_all{v:Int->Option Node}{X:Int->Prop}(hX:∀x,X x->∀n,v x=some n->∀k∈n.kids,X k):∀ {h:Nat} {lo hi:Option Str} {s:Sub},Tr v h lo hi s->X s.id->∀x∈s.ids,X x
 |0,_,_,s,hs,h0,x,hx=>by
  obtain⟨a,b,_⟩:=hs
  rw[b]at hx
  obtain rfl:x=s.id:=by simpa using hx
  exact h0
 |h+1,_,_,s,hs,h0,x,hx=>by
  obtain⟨subs,keys,a,b,c,d,e,f,g⟩:=hs
  rw[c]at hx
  rcases List.mem_cons.1 hx with rfl | hx
  ·exact h0
  ·unfold ids_ at hx
   obtain⟨t,ht,hx⟩:=List.mem_flatMap.1 hx
   obtain⟨l,h',hp⟩:=chain_all g t ht
   exact tr_all hX hp (hX _ h0 _ a t.id (List.mem_map.2 ⟨t,ht,rfl⟩)) x hx
theorem Inv.done{v:Int->Option Node}{C:Int->Prop}{roots met out:List Int}(h:Inv v C roots met [] out){root:Int}{es:List En.Ent}{tok:Nat}{ids:List Int}(hr:root∈roots)(hv:VerAt v root es tok ids)(hp:∀i∈ids,0<i):∀x∈ids,x∈out:=by
 rcases hv with⟨_,_,rfl⟩ | ⟨hh,s,rfl,rfl,rfl,_,ht,_⟩
 ·exact fun x hx=>absurd hx List.not_mem_nil
 ·have hmo:∀x,x∈met ↔ x∈out:=fun x=>by rw[h.mem];simp
  have hroot:s.id∈out:=by
   rcases h.root _ hr with a | a
   ·have:=hp _ (tr_id ht);omega
   ·exact(hmo _).1 a
  have key:∀x∈s.ids,x∈out/\x∈s.ids:=tr_all (X:=fun x=>x∈out/\x∈s.ids) (fun x hx n hn k hk=>by
   obtain⟨n',n1,n2⟩:=tr_kids ht x hx.2
   rw[hn]at n1
   cases n1
   have hks:=n2 k hk
   rcases h.kid x hx.1 n hn k hk with a | a
   ·have:=hp k hks;omega
   ·exact⟨(hmo _).1 a,hks⟩) ht ⟨hroot,tr_id ht⟩
  exact fun x hx=>(key x hx).1
end Mk
namespace Go.Proofs.YtjoiajmbfbjnnaaGreatDoor
open Go.RowKit Go.Shelf
def setR(v:Value):Option (DataW Value × List MemPlace):=
 match v with
 | .bool _=>some (.held v, [])
 |_=>none
theorem setR_mk(b:Bool):setR (.bool b)=some (.held (.bool b), []):=rfl
theorem setR_inv{v:Value}{z:DataW Value × List MemPlace}(h:setR v=some z):∃b,v= .bool b/\z=(.held (.bool b), []):=by
 unfold setR at h
 split at h
 ·rename_i b;exact⟨b,rfl,by cases h;rfl⟩
 ·cases h
def SetOf(D:DataW Value)(met:List Int):Prop:=∀ (i:Int) (z:DataW Value),D.atKey (.int .i64 i) z=if i∈met then .held (.bool true)else z
theorem SetOf.nil:SetOf (.map []) []:=fun i z=>by simp[DataW.atKey]
theorem SetOf.put{D:DataW Value}{met:List Int}(h:SetOf D met)(hm:Maps.IsMap D)(i:Int):SetOf (D.put (.int .i64 i) (.held (.bool true))) (met++ [i]):=by
 intro j z
 by_cases e:j=i
 ·subst e
  rw[Maps.atKey_put_same hm (by trivial)];simp
 ·have hne:(Lit.int .i64 j)≠ .int .i64 i:=by intro e2;injection e2 with _ e2;exact e e2
  rw[Maps.atKey_put_other hne,h j z];simp[e]
section
variable {w w':World}
theorem set_look{m j:Nat}{Dm:DataW Value}{met:List Int}(ho:w.ownsMap Tryz.prog 3 setR m j Dm)(hmet:SetOf Dm met){id:Int}(hw:(Lit.int .i64 id).wf=true):
  (Instr.lookup 160 (.map (some m)) (.int .i64 id) false).run Tryz.prog w= .ok (.bool (decide (id∈met))) w:=by
 obtain⟨v,ps,hlook,hv⟩:=ho.lookup dkeyedI Tryz.underlying160 (Tryz.zeroValue4 w) (setR_mk false) (dkeyI hw)
 obtain⟨b,rfl,hz⟩:=setR_inv hv
 rw[hmet id]at hz
 have:b=decide (id∈met):=by
  have hz:=(Prod.mk.inj hz).1
  by_cases hm:id∈met
  ·rw[if_pos hm]at hz;injection hz with hz;injection hz with hz;rw[decide_eq_true hm];exact hz.symm
  ·rw[if_neg hm]at hz;injection hz with hz;injection hz with hz;rw[decide_eq_false hm];exact hz.symm
 rw[this]at hlook
 exact hlook
structure Mrd(S:Nat->Prop)(B t K:Nat)(disk:Tp.Disk)(TM:Nat->Tp.Pst->World->Prop):Prop where
 low:∀k,S k->k<B
 size:∀ {r σ w},TM r σ w->B<=w.heap.size
 up:∀ {r σ w w' S'},TM r σ w->Fr S' w w'->FarS B w S'->TM r σ w'
 less:∀ {r r' σ w},TM r σ w->r'<=r->TM r' σ w
 ht:∀ {r σ w id n},TM r σ w->σ.view disk id=some n->Nd.fits n=true/\IdOk id
 get:∀ {r σ w id n},TM (r+1) σ w->σ.view disk id=some n->∀k:Nat,(n.leaf=true->k=1)->(n.leaf=false->k=2)->
  Calls Tryz.prog 146 #[.pointer (some ⟨t,0,none⟩), .int .i64 id, .int .u8 k] w fun e w'=>e= .returned (.tuple #[.string (Nd.str (Nd.enc n)), .int .i64 0])/\TM r σ w'/\Fr S w w'
 getN:∀ {r σ w id n},TM (r+1) σ w->σ.view disk id=some n->n.leaf=false->
  Calls Tryz.prog 146 #[.pointer (some ⟨t,0,none⟩), .int .i64 id, .int .u8 1] w fun e w'=>e= .returned (.tuple #[.string ⟨#[]⟩, .int .i64 3])/\TM r σ w'/\Fr S w w'
 map:∀ {r σ w w'} {g:Nat} {es:Array MapEntry} {c:Nat},TM r σ w->B<=g->w.heap[g]? =some (.map es c)->Fr (fun k=>k=g) w w'->TM r σ w'
 run:∀ {r σ w w'} {g:Nat} {cs:Array Value},TM r σ w->K<=g->Blk w g 106 cs->Fr (fun k=>k=g) w w'->TM r σ w'
section
variable {S S':Nat->Prop}{B t K:Nat}{disk:Tp.Disk}{TM:Nat->Tp.Pst->World->Prop}{r:Nat}{σ:Tp.Pst}{bad:Int->Prop}
theorem Mrd.below(M:Mrd S B t K disk TM)(h:TM r σ w)(hb:Below w.heap.size w w'):TM r σ w':=M.up (S':=fun _=>False) h (.of_below hb) (fun _ hk=>hk.elim)
theorem Mrd.own(M:Mrd S B t K disk TM){g:Nat}{ty:TypeId}{cs:Array Value}(h:TM r σ w)(hf:Fr (fun k=>k=g) w w')(hB:Blk w g ty cs)(hg:B<=g)(h1:ty≠106)(h2:ty≠143)(h3:ty≠121)(h4:ty≠132):TM r σ w':=
 M.up h hf (fun k hk=>by
  subst hk
  refine⟨hg,fun o ho=> ?_⟩
  have e:o= .cells cs ty:=by have:=ho.symm.trans hB;injection this
  subst e
  exact⟨fun cs' e=>by injection e with _ e;exact h1 e,fun cs' e=>by injection e with _ e;exact h2 e,fun cs' e=>by injection e with _ e;exact h3 e,fun cs' e=>by injection e with _ e;exact h4 e,fun _ _ e=>by cases e⟩)
theorem Mrd.row(M:Mrd S B t K disk TM){b e s n:Nat}{v:Value}{xs:List Value}(h:TM r σ w)(ho:w.ownsRow b e s v n xs)(hb:B<=b)(h1:e≠106)(h2:e≠143)(h3:e≠121)(h4:e≠132)(hg:w.grownBy w' v.ownBlock):TM r σ w':=by
 refine M.up h (Fr.of_grown hg) (fun k hk=> ?_)
 obtain⟨cs,hcs⟩:=own_obj ho hk
 refine⟨Nat.le_trans hb (World.ownsRow.lt ho k hk).1,fun o h=> ?_⟩
 have e:o= .cells cs e:=by have:=h.symm.trans hcs;injection this
 subst e
 exact⟨fun cs' e=>by injection e with _ e;exact h1 e,fun cs' e=>by injection e with _ e;exact h2 e,fun cs' e=>by injection e with _ e;exact h3 e,fun cs' e=>by injection e with _ e;exact h4 e,fun _ _ e=>by cases e⟩
theorem mget_two(M:Mrd S B t K disk TM)(hbad:BadGet S t TM bad)(r:Nat)(σ:Tp.Pst)(id:Int)(hok:(∃n,σ.view disk id=some n)\/(σ.view disk id=none/\bad id)):
  (∃n,σ.view disk id=some n/\n.leaf=true/\GetS S t TM (r+1) σ id 1 (Nd.str (Nd.enc n)) 0)\/
  (GetS S t TM (r+1) σ id 1 ⟨#[]⟩ 3/\((∃n,σ.view disk id=some n/\n.leaf=false/\GetS S t TM r σ id 2 (Nd.str (Nd.enc n)) 0)\/(σ.view disk id=none/\GetS S t TM r σ id 2 ⟨#[]⟩ 3))):=by
 rcases hok with⟨n,hv⟩ | ⟨hv,hb⟩
 ·cases hl:n.leaf with
  |true=>exact .inl ⟨n,hv,hl,fun w h=>M.get h hv 1 (fun _=>rfl) (fun e=>by rw[hl]at e;cases e)⟩
  |false=>exact .inr ⟨fun w h=>M.getN h hv hl, .inl ⟨n,hv,hl,fun w h=>M.get h hv 2 (fun e=>by rw[hl]at e;cases e) (fun _=>rfl)⟩⟩
 ·exact .inr ⟨fun w h=>hbad h hb 1 (.inl rfl), .inr ⟨hv,fun w h=>hbad h hb 2 (.inr rfl)⟩⟩
end
structure TMr(F:FFile)(B t m n K:Nat)(used:List Run)(disk:Tp.Disk)(r:Nat)(σ:Tp.Pst)(w:World):Prop where
 tm:TMd F B t m n used disk r σ w
 free:∃v,w.cell? ⟨t,1,none⟩=some v/\∀g,v.ownBlock=some g->g<K
section
variable {F:FFile}{B t m n K r r':Nat}{used:List Run}{disk:Tp.Disk}{σ σ':Tp.Pst}{S':Nat->Prop}
theorem TMd.tmr(h:TMd F B t m n used disk r σ w):TMr F B t m n w.heap.size used disk r σ w:=by
 obtain⟨D,⟨_,⟨v,h4,h5⟩,_⟩,_⟩:=h.mem.txn
 exact⟨h,v,h4.cell 1,fun g hg=>(World.ownsRow.lt h5 g hg).2⟩
theorem TMr.cell(h:TMr F B t m n K used disk r σ w)(hf:Fr S' w w')(hn:¬S' t):∃v,w'.cell? ⟨t,1,none⟩=some v/\∀g,v.ownBlock=some g->g<K:=by
 obtain⟨v,h1,h2⟩:=h.free
 exact⟨v,(hf.cell (p:=⟨t,1,none⟩) (Nat.lt_of_lt_of_le h.tm.low.1 h.tm.low.2.2) hn).trans h1,h2⟩
theorem TMr.turn(h:TMr F B t m n K used disk r σ w){g:Nat}(hf:Fr (fun k=>k=g) w w')(hg:B<=g)(hfr:∀b,(∃v,w.cell? ⟨t,1,none⟩=some v/\v.ownBlock=some b)->(∃cs,w.heap[b]? =some (.cells cs 106 (0,0)))->b≠g):TMr F B t m n K used disk r σ w':=by
 refine⟨?_,h.cell hf (fun e=>by have:=h.tm.low.1;omega)⟩
 obtain⟨⟨h1,h2,h3,h4,⟨g1,g2,D,g3,g4⟩,h6,R,r1,r2,r3⟩,_⟩:=h
 have hnb:∀b,F.Blks b->¬b=g:=fun b hb a=>by have:=(h2 b hb).1;omega
 have key:∀ {b:Nat} {o:Obj},w.heap[b]? =some o->b≠g->w'.heap[b]? =some o:=fun {b o} ho hn=>(hf.block b (Array.getElem?_eq_some_iff.1 ho).1 hn).trans ho
 have hdn:=hnb F.d (.inr (.inl rfl))
 have hfn:=hnb F.f (.inl rfl)
 have hR:=r3.fr hf hnb
 refine⟨⟨h1.1,h1.2.1,Nat.le_trans h1.2.2 hf.size⟩,h2,h3,h4.fr hf (fun a=>by omega),⟨g1,g2,D, ?_,g4⟩,h6,R,r1,r2,hR⟩
 obtain⟨_,⟨v,q4,q5⟩,es',ck,q6,q7⟩:=g3
 refine⟨h6.size ▸ hR.fileOf,⟨v,key q4 (by omega), ?_⟩,es',ck,key q6 (by omega),q7⟩
 rcases q5 with⟨e1,e2 | ⟨b,cap,cur,hv,hb,hh,hr⟩⟩
 ·exact⟨e1, .inl e2⟩
 ·exact⟨e1, .inr ⟨b,cap,cur,hv,hb,key hh (hfr b ⟨v,(Blk.cell q4 1),by rw[hv];rfl⟩ ⟨cur,hh⟩),hr⟩⟩
theorem TMd.readD(h:TMd F B t m n used disk (r+1) σ w){id:Int}{x:Nd.Node}(h1:id ∉ σ.mine)(h2:2<=id)(h3:id<σ.pages)(h4:Rp.has σ.free id=false)(h5:disk id=some x)(k:Nat):
  Calls Tryz.prog 146 #[.pointer (some ⟨t,0,none⟩), .int .i64 id, .int .u8 k] w fun e w'=>e= .returned (if Nd.kind x=k then .tuple #[.string (Nd.str (Nd.enc x)), .int .i64 0]else .tuple #[.string ⟨#[]⟩, .int .i64 3])/\TMd F B t m n used disk r σ w'/\Fr (fun g=>g=F.d) w w':=by
 obtain⟨b1,b2,b3,b4,⟨g1,g2,D,g3,g4,g5⟩,b6,R,r1,r2,r3⟩:=h
 obtain⟨p1,p2,p3⟩:=b6.page _ _ h5
 have hp:=g1.pg
 have hu:=g1.hu id p2
 have hnn:id<(n:Int):=by omega
 have hno:noPage F.D.sure.length id=false:=by unfold noPage;rw[b6.size];simp;omega
 have hsm:=ap_small g1
 have hlt:=r3.disk.self.lt
 have hle:=r3.disk.le.1
 refine(tget_D t m n _ _ _ D id k (by exact(show IdOk id by unfold IdOk;omega).wf) (by rw[g4.has];exact decide_eq_false h1) h2 h3 h4 hsm.1 w g3 r3 (b6.fine ⟨r1,by omega⟩) b4 b3.1 (by omega) (some (Nd.kind x,Nd.enc x)) (fun _ _=>at_reads p3)).mono ?_
 rintro e w' ⟨rfl,q1,q2⟩
 have hrd:Dk.readD { F.D with reads:=R } id= { F.D with reads:=R+1 } :=by
  unfold Dk.readD
  rw[if_neg (by show ¬noPage F.D.sure.length id=true;rw[hno];decide),if_neg (by show ¬F.D.down=true;rw[b6.down];decide)]
 rw[hrd]at q1
 have hR:F.At w' (R+1):=q1
 refine⟨?_,⟨⟨b1.1,b1.2.1,Nat.le_trans b1.2.2 q2.size⟩,b2,b3,b4.fr q2 (fun a=>by omega),⟨g1,g2,D,g3.read q2 r3 hR b6.size,g4,g5⟩,b6,R+1,by omega,by omega,hR⟩,q2⟩
 have e1:frB F.D.sure.length F.D.down id k (some (Nd.kind x,Nd.enc x))=if Nd.kind x=k then(Nd.enc x,0)else([],3):=by
  unfold frB
  rw[hno,b6.down]
  rfl
 show Ending.returned (.tuple #[str (frB F.D.sure.length F.D.down id k (some (Nd.kind x,Nd.enc x))).1, .int .i64 (frB F.D.sure.length F.D.down id k (some (Nd.kind x,Nd.enc x))).2])=_
 rw[e1]
 split
 ·rfl
 ·rfl
end
theorem mrd_disk(F:FFile){B t m:Nat}(ht:t<B)(hd:F.d<B)(hdt:F.d≠t)(n K:Nat)(hK:B<=K)(used:List Run)(disk:Tp.Disk):Mrd (fun g=>g=F.d) B t K disk (TMr F B t m n K used disk) where
 low:=fun k a=>by subst a;exact hd
 size:=fun h=>h.tm.low.2.2
 up:=fun {r σ w w' S'} h hf hS=>⟨h.tm.up hf hS,h.cell hf (fun a=>by have:=(hS t a).1;omega)⟩
 less:=fun h hr=>⟨h.tm.less hr,h.free⟩
 ht:=fun h hv=>h.tm.ht_ hv
 get:=fun {r σ w id x} h hv k h1 h2=>by
  rcases view_cases hv with⟨a1,a2⟩ | ⟨a1,a2,a3,a4,a5⟩
  ·refine(h.tm.mem.get a1 a2 k h1 h2).mono ?_
   rintro e w' ⟨rfl,hb⟩
   exact⟨rfl,⟨(h.tm.below hb).less (Nat.le_succ _),h.cell (S':=fun _=>False) (.of_below hb) (fun a=>a)⟩, .of_below hb⟩
  ·refine(h.tm.readD a1 a2 a3 a4 a5 k).mono ?_
   rintro e w' ⟨rfl,hb,hf⟩
   have hk:Nd.kind x=k:=by
    unfold Nd.kind
    cases hl:x.leaf with
    |true=>rw[if_pos rfl,h1 hl]
    |false=>rw[if_neg (by decide),h2 hl]
   rw[if_pos hk]
   exact⟨rfl,⟨hb,h.cell hf (fun a=>hdt a.symm)⟩,hf⟩
 getN:=fun {r σ w id x} h hv h2=>by
  rcases view_cases hv with⟨a1,a2⟩ | ⟨a1,a2,a3,a4,a5⟩
  ·refine(h.tm.mem.getN a1 a2 h2).mono ?_
   rintro e w' ⟨rfl,hb⟩
   exact⟨rfl,⟨(h.tm.below hb).less (Nat.le_succ _),h.cell (S':=fun _=>False) (.of_below hb) (fun a=>a)⟩, .of_below hb⟩
  ·refine(h.tm.readD a1 a2 a3 a4 a5 1).mono ?_
   rintro e w' ⟨rfl,hb,hf⟩
   have hk:Nd.kind x≠1:=by
    unfold Nd.kind
    rw[h2]
    decide
   rw[if_neg hk]
   exact⟨rfl,⟨hb,h.cell hf (fun a=>hdt a.symm)⟩,hf⟩
 map:=fun {r σ w w' g es c} h hg hm hf=>h.turn hf hg (fun b _ ⟨cs,hc⟩ e=>by subst e;rw[hm]at hc;cases hc)
 run:=fun {r σ w w' g cs} h hg hm hf=>h.turn hf (Nat.le_trans hK hg) (fun b ⟨v,q1,q2⟩ _ e=>by
  obtain⟨v',p1,p2⟩:=h.free
  rw[q1]at p1
  cases p1
  have:=p2 b q2
  omega)
structure MkAt(t mm mb lo:Nat)(v:Value)(met st:List Int)(w:World):Prop where
 self:Blk w mm 162 #[.pointer (some ⟨t,0,none⟩), .map (some mb),v]
 row:LO intE 3 w lo v st
 map:∃D,w.ownsMap Tryz.prog 3 setR mb met.length D/\SetOf D met
def MS(mm mb:Nat)(v:Value)(k:Nat):Prop:=k=mm\/k=mb\/v.ownBlock=some k
variable {t mm mb lo:Nat}{v:Value}{met st:List Int}
theorem MkAt.fr{S:Nat->Prop}(h:MkAt t mm mb lo v met st w)(hf:Fr S w w')(hS:∀k,S k->¬MS mm mb v k):MkAt t mm mb lo v met st w':=by
 obtain⟨h1,h2,D,⟨es,ck,g1,g2⟩,g3⟩:=h
 refine⟨hf.blk h1 (fun a=>hS _ a (.inl rfl)),h2.frB hf (fun g hg a=>hS g a (.inr (.inr hg))),D,⟨es,ck,(hf.block _ (Array.getElem?_eq_some_iff.1 g1).1 (fun a=>hS _ a (.inr (.inl rfl)))).trans g1,g2⟩,g3⟩
theorem MkAt.below(h:MkAt t mm mb lo v met st w)(hb:Below w.heap.size w w'):MkAt t mm mb lo v met st w':=h.fr (S:=fun _=>False) (.of_below hb) (fun _ a=>a.elim)
theorem MkAt.mlt(h:MkAt t mm mb lo v met st w):mm<w.heap.size/\mb<w.heap.size:=by
 obtain⟨h1,h2,D,⟨es,ck,g1,g2⟩,g3⟩:=h
 exact⟨h1.lt,(Array.getElem?_eq_some_iff.1 g1).1⟩
theorem MkAt.ms(h:MkAt t mm mb lo v met st w){k:Nat}(hk:MS mm mb v k):k<w.heap.size:=by
 rcases hk with rfl | rfl | hk
 ·exact h.mlt.1
 ·exact h.mlt.2
 ·exact(h.row.lt _ hk).2
end
theorem mk_push_snoc:∀ (a met st:List Int) (x:Int),Mk.push met st (a++ [x])=if x≠0/\x ∉ (Mk.push met st a).1 then((Mk.push met st a).1++ [x],(Mk.push met st a).2++ [x])else Mk.push met st a
 | [],met,st,x=>by
  show Mk.push met st [x]=_
  unfold Mk.push
  rfl
 |i::a,met,st,x=>by
  show Mk.push met st (i::(a++ [x]))=_
  by_cases h:i≠0/\i ∉ met
  ·have e:∀r,Mk.push met st (i::r)=Mk.push (met++ [i]) (st++ [i]) r:=fun r=>by rw[Mk.push,if_pos h]
   rw[e,e,mk_push_snoc a]
  ·have e:∀r,Mk.push met st (i::r)=Mk.push met st r:=fun r=>by rw[Mk.push,if_neg h]
   rw[e,e,mk_push_snoc a]
theorem mk_push_len(l met st:List Int):(Mk.push met st l).1.length<=met.length+l.length/\(Mk.push met st l).2.length<=st.length+l.length:=by
 induction l generalizing met st with
 |nil=>simp[Mk.push]
 |cons i l ih=>
  unfold Mk.push
  split
  ·have:=ih (met++ [i]) (st++ [i])
   simp at this ⊢
   omega
  ·have:=ih met st
   simp at this ⊢
   omega
section
variable {S:Nat->Prop}{B t K mm mb lo:Nat}{disk:Tp.Disk}{TM:Nat->Tp.Pst->World->Prop}{w:World}{r:Nat}{σ:Tp.Pst}{v:Value}{met st:List Int}
def PsEnd(t mm mb lo:Nat)(TM:Nat->Tp.Pst->World->Prop)(r:Nat)(σ:Tp.Pst)(v:Value)(met st:List Int)(w:World)(e:Ending)(w':World):Prop:=
 e= .returned (.tuple #[])/\∃v',MkAt t mm mb lo v' met st w'/\TM r σ w'/\Fr (MS mm mb v) w w'/\(v'.ownBlock=v.ownBlock\/∃g,v'.ownBlock=some g/\w.heap.size<=g)
theorem push_any(M:Mrd S B t K disk TM)(A:Option Addr)(c:Nat)(l:List Int)(h:MkAt t mm mb lo v met st w)(hT:TM r σ w)(hB:B<=mm/\B<=mb/\B<=lo/\lo<=w.heap.size)
  (hid:∀x∈l,IdOk x) (hls:LS intE w w.heap.size A l) (hne:∀ad,l≠ []->A=some ad->¬MS mm mb v ad.block) (hl:l.length<=100000) (hml:met.length<=100000/\st.length<=100000):
  Calls Tryz.prog 92 #[.pointer (some ⟨mm,0,none⟩), .slice A l.length c] w (PsEnd t mm mb lo TM r σ v (Mk.push met st l).1 (Mk.push met st l).2 w):=by
 have HM:=Lib.hid M
 have HID:=Lib.hid hid
 have HC:Hid (∀wr,Fr (MS mm mb v) w wr->∀k (hk:k<l.length),∃b o,A=some ⟨b,o,none⟩/\wr.cell? ⟨b,o+k,none⟩=some (.int .i64 l[k])):=Lib.hid fun wr hf k hk=>by
  obtain⟨b,o,e,hb,hc⟩:=hls.at_ hk
  have h0:=hc 0 (by decide)
  refine⟨b,o,e,(hf.cell (p:=⟨b,o+k,none⟩) hb (show ¬MS mm mb v b from hne _ (List.ne_nil_of_length_pos (by omega)) e)).trans ?_⟩
  have e1:o+k*intE.size+0=o+k:=by show o+k*1+0=o+k;omega
  rw[e1]at h0
  exact h0
 have HST:Hid (PsEnd t mm mb lo TM r σ v met st w (.returned (.tuple #[])) w):=Lib.hid ⟨rfl,v,h,hT,Fr.refl _, .inl rfl⟩
 clear M hid hls hne h hT
 go_enter Tryz.func92,Tryz.ntmps92
 go_wp2
 go_loopg [8] (l.length) (fun gg s8 wr=>∃k:Nat,s8= .int .i64 (k:Nat)/\k<=l.length/\l.length-k<=gg/\Hid (PsEnd t mm mb lo TM r σ v (Mk.push met st (l.take k)).1 (Mk.push met st (l.take k)).2 w (.returned (.tuple #[])) wr))
 case atStart=>exact⟨0,rfl,Nat.zero_le _,by omega,HST⟩
 case round=>
  obtain⟨k,rfl,hkl,hkg,HP⟩:=hrel
  by_cases hk:k<l.length
  ·have hki:(k:Int)<(l.length:Nat):=by omega
   obtain⟨_,v1,hat,htm,hfr,hob⟩:=HP.out
   obtain⟨b,o,rfl,hc⟩:=HC.out wr hfr k hk
   have hx:=HID.out l[k] (List.getElem_mem hk)
   have hsn:=mk_push_snoc (l.take k) met st l[k]
   rw[<-List.take_succ_eq_append_getElem hk]at hsn
   have hpl:=mk_push_len (l.take k) met st
   rw[List.length_take,Nat.min_eq_left hkl]at hpl
   obtain⟨p,hp⟩:∃p,p=Mk.push met st (l.take k):=⟨_,rfl⟩
   rw[<-hp]at hat hsn hpl
   obtain⟨m1,s1⟩:=p
   simp only at hat hsn hpl
   have HSN:=Lib.hid hsn
   clear hsn hp HP
   generalize l[k]=x at*
   have hw:=hx.wf
   have hwk:IntKind.i64.wrap ((k:Int)+1)=(k:Int)+1:=IntWalk.i64_in _ (by omega)
   by_cases h0:x=0
   ·subst h0
    go_wp2
    go_roundg (l.length-(k+1))
    case measure=>omega
    case rel=>exact⟨k+1,by go_num,by omega,Nat.le_refl _,Lib.hid (by rw[HSN.out,if_neg (by simp)];exact⟨rfl,v1,hat,htm,hfr,hob⟩)⟩
   ·have hxb:(x==0)=false:=by simpa using h0
    have hxn:(x != 0)=true:=by simpa using h0
    obtain⟨D,hmap,hset⟩:=hat.map
    have hlook:=set_look hmap hset hw
    have c0:=hat.self.cell 0
    have c1:=hat.self.cell 1
    have c2:=hat.self.cell 2
    by_cases hm:x∈m1
    ·have hq:decide (x∈m1)=true:=decide_eq_true hm
     rw[hq]at hlook
     have HAT:=Lib.hid hat
     clear hq hat hmap hset
     go_wp2
     go_roundg (l.length-(k+1))
     case measure=>omega
     case rel=>exact⟨k+1,by go_num,by omega,Nat.le_refl _,Lib.hid (by rw[HSN.out,if_neg (fun a=>a.2 hm)];exact⟨rfl,v1,HAT.out,htm,hfr,hob⟩)⟩
    ·have hq:decide (x∈m1)=false:=decide_eq_false hm
     rw[hq]at hlook
     obtain⟨w4,hupd,hmap4,hturn⟩:=hmap.store dkeyedI Tryz.underlying160 (show m1.length<maxLen by unfold maxLen;omega) (dkeyI hw) (setR_mk true)
     obtain⟨es,ck,hobj⟩:∃es ck,wr.heap[mb]? =some (.map es ck):=by obtain⟨es,ck,g1,_⟩:=hmap;exact⟨es,ck,g1⟩
     have hf4:Fr (fun k=>k=mb) wr w4:=⟨hturn.grown.os,hturn.grown.tape,hturn.grown.output,hturn.grown.size,fun k hk hn=>hturn.grown.block k hk (fun e=>hn (by injection e))⟩
     have ht4:=HM.out.map htm hB.2.1 hobj hf4
     have hne:mm≠mb:=fun e=>by have:=hat.self;unfold Blk at this;rw[e,hobj]at this;cases this
     have hself4:=hf4.blk hat.self hne
     have hrow4:LO intE 3 w4 lo v1 s1:=hat.row.frB hf4 (fun g hg e=>by
      rcases hat.row.2 with⟨e1,_⟩ | ⟨g',cap,cur,e1,_,e3,_⟩
      ·rw[e1]at hg;cases hg
      ·rw[e1]at hg
       have e4:g'=g:=by injection hg
       rw[e4,e,hobj]at e3
       cases e3)
     have hset4:=hset.put hmap.isMap x
     obtain⟨A1,k1,rfl⟩:=hrow4.form
     have d0:=hself4.cell 0
     have d1:=hself4.cell 1
     have d2:=hself4.cell 2
     have f2:=hself4.frozen 2
     have hng:=own_blk_ne hrow4 hself4 (by decide)
     have HS:=Lib.hid (And.intro hself4 (And.intro hmap4 (And.intro hset4 (And.intro ht4 hf4))))
     have hrow5:w4.ownsRow lo 3 1 (.slice A1 s1.length k1) s1.length (intE.cells s1):=hrow4
     have hlo:lo<=w4.heap.size:=by have:=hfr.size;have:=hf4.size;omega
     clear hset hat hmap hq hself4 hmap4 hset4 hobj hturn hf4 ht4
     go_wp2_with (at_builtin;refine wpList_app1 rfl _ _ 29 rfl eiInt Tryz.underlying29 rfl (by decide) rfl hrow5 rfl (by simp) rfl (by simp[Value.oneCell']) (by unfold maxLen;omega) (by omega) hlo ?_;intro v' w5 hown' hgrow hbel hob5 _;obtain⟨A2,k2,rfl⟩:=own_form hown';have hself5:=HS.out.1.grown hgrow (fun e=>hng e.symm);have q2:=hself5.cell 2;have g2:=hself5.frozen 2)
     have hself6:=hself5.set_ 2 (.slice A2 (s1.length+1) k2)
     have hrow6:LO intE 3 w5 lo (.slice A2 (s1.length+1) k2) (s1++ [x]):=LO.snoc rfl rfl rfl hown'
     have hfg:=Fr.of_grown hgrow
     obtain⟨_,hmap4,hset4,ht4,hf4⟩:=HS.out
     have hf6:Fr (MS mm mb v) w (w5.setCell ⟨mm,2,none⟩ (.slice A2 (s1.length+1) k2)):=by
      refine Fr.old (S':=fun k=>MS mm mb v k\/MS mm mb (.slice A1 s1.length k1) k) ((hfr.more fun _=> .inl).trans ((hf4.more fun k a=> .inr (.inr (.inl a))).trans ((hfg.more fun k a=> .inr (.inr (.inr a))).trans (Fr.set_ (.inr (.inl rfl)) _)))) (fun k hk=> ?_)
      rcases hk with hk | hk | hk | hk
      ·exact .inl hk
      ·exact .inl (.inl hk)
      ·exact .inl (.inr (.inl hk))
      ·rcases hob with e | ⟨g,e,hg⟩
       ·rw[e]at hk;exact .inl (.inr (.inr hk))
       ·rw[e]at hk
        have:g=k:=by injection hk
        exact .inr (by omega)
     have ht5:=HM.out.row ht4 hrow5 hB.2.2.1 (by decide) (by decide) (by decide) (by decide) hgrow
     have hmne:(Value.slice A1 s1.length k1).ownBlock≠some mb:=fun e=>by
      obtain⟨cs,hcs⟩:=own_obj hrow5 e
      obtain⟨es,ck,g1,_⟩:=hmap4
      rw[g1]at hcs
      cases hcs
     have hne2:mb≠mm:=fun e=>by
      obtain⟨es,ck,g1,_⟩:=hmap4
      have g2:=HS.out.1
      unfold Blk at g2
      rw[<-e,g1]at g2
      cases g2
     go_roundg (l.length-(k+1))
     case measure=>omega
     case rel=>
      refine⟨k+1,by go_num,by omega,Nat.le_refl _,Lib.hid ?_⟩
      rw[HSN.out,if_pos ⟨h0,hm⟩]
      refine⟨rfl,_,⟨hself6,hrow6.set_ hself5 (by decide),_, ?_,hset4⟩, ?_,hf6, ?_⟩
      ·have:=(hmap4.kept hgrow (fun e=>hmne e.symm)).setCell (a:=⟨mm,2,none⟩) hne2 (.slice A2 (s1.length+1) k2)
       simpa using this
      ·exact HM.out.own ht5 (Fr.set_ (S:=fun k=>k=mm) rfl _) hself5 hB.1 (by decide) (by decide) (by decide) (by decide)
      ·rcases hob5 with e | ⟨g,e,hg⟩
       ·rw[e];exact hob
       ·refine .inr ⟨g,e, ?_⟩
        have:=hfr.size
        have:=hf4.size
        omega
  ·obtain rfl:k=l.length:=by omega
   have hki:¬ (l.length:Int)<(l.length:Nat):=by omega
   go_wp2
   go_end0
   have:=HP.out
   rw[List.take_of_length_le (Nat.le_refl _)]at this
   exact this
end
section
variable {S:Nat->Prop}{B t K mm mb lo:Nat}{disk:Tp.Disk}{TM:Nat->Tp.Pst->World->Prop}{bad:Int->Prop}{w w':World}{r:Nat}{σ:Tp.Pst}{v:Value}{met st:List Int}
theorem MkAt.sfr(M:Mrd S B t K disk TM)(h:MkAt t mm mb lo v met st w)(hB:B<=mm/\B<=mb/\B<=lo)(hf:Fr S w w'):MkAt t mm mb lo v met st w':=h.fr hf (fun k hk a=>by
 have:=M.low k hk
 rcases a with rfl | rfl | a
 ·omega
 ·omega
 ·have:=(h.row.lt _ a).1;omega)
def MrEnd(S:Nat->Prop)(t mm mb lo:Nat)(TM:Nat->Tp.Pst->World->Prop)(r:Nat)(σ:Tp.Pst)(v:Value)(met st:List Int)(vw:Option Nd.Node)(w:World)(e:Ending)(w':World):Prop:=
 (∃n,vw=some n/\e= .returned (.int .i64 0)/\∃v',MkAt t mm mb lo v' (Mk.push met st n.kids).1 (Mk.push met st n.kids).2 w'/\TM r σ w'/\Fr (fun k=>S k\/MS mm mb v k) w w')\/
 (vw=none/\e= .returned (.int .i64 3)/\TM r σ w'/\Fr (fun k=>S k\/MS mm mb v k) w w')
theorem mread_push(M:Mrd S B t K disk TM)(h:MkAt t mm mb lo v met st w)(hT:TM r σ w)(hB:B<=mm/\B<=mb/\B<=lo/\lo<=w.heap.size)(n:Nd.Node)(hid:∀x∈n.kids,IdOk x)(hkl:n.kids.length<=100000)(hml:met.length<=100000/\st.length<=100000)
  {w4 w5:World} (hb4:Below w.heap.size w w4) {A1 A2 A3:Option Addr} {k1 k2 k3:Nat} (hnf:NF w.heap.size w4 (nodeV n.leaf A1 n.ents.length k1 A2 n.kids.length k2 A3 n.keys.length k3) n) (hf5:Below w4.heap.size w4 w5):
  Calls Tryz.prog 92 #[.pointer (some ⟨mm,0,none⟩), .slice A2 n.kids.length k2] w5 (PsEnd t mm mb lo TM r σ v (Mk.push met st n.kids).1 (Mk.push met st n.kids).2 w5):=by
 have h4:=h.below hb4
 have h5:=h4.below hf5
 have ht5:=M.below (M.below hT hb4) hf5
 have hz4:=hb4.size
 have hz5:=hf5.size
 have hnf5:=hnf.below hf5
 obtain⟨_,_,_,_,_,_,e,_,q2,_⟩:=hnf5
 unfold nodeV at e
 simp only[Value.agg.injEq,Array.mk.injEq,List.cons.injEq,Value.slice.injEq,and_true,true_and]at e
 obtain⟨⟨rfl,rfl⟩,⟨rfl,rfl⟩,rfl,rfl⟩:=e
 have hk:=q2.ls
 refine push_any M _ _ _ h5 ht5 ⟨hB.1,hB.2.1,hB.2.2.1,by omega⟩ hid hk (fun ad _ e a=> ?_) hkl hml
 have hge:w.heap.size<=ad.block:=by
  rcases q2.2 with⟨e1,_⟩ | ⟨g,cap,cur,e1,e2,e3,_⟩
  ·injection e1 with e1;rw[e1]at e;cases e
  ·injection e1 with e1;rw[e1]at e;injection e with e;subst e;exact e2
 have:=h.ms a
 omega
theorem mread_any(M:Mrd S B t K disk TM)(hbad:BadGet S t TM bad)(h:MkAt t mm mb lo v met st w)(hT:TM (r+2) σ w)(hB:B<=mm/\B<=mb/\B<=lo/\lo<=w.heap.size)(id:Int)
  (hok:(∃n,σ.view disk id=some n)\/(σ.view disk id=none/\bad id)) (hkid:∀n,σ.view disk id=some n->(∀x∈n.kids,IdOk x)/\n.kids.length<=100000) (hml:met.length<=100000/\st.length<=100000):
  Calls Tryz.prog 93 #[.pointer (some ⟨mm,0,none⟩), .int .i64 id] w (MrEnd S t mm mb lo TM r σ v met st (σ.view disk id) w):=by
 have hget:=mget_two M hbad r σ id hok
 have hfit:Hid (∀n,σ.view disk id=some n->Nd.fits n=true):=Lib.hid fun n hv=>(M.ht hT hv).1
 have HM:=Lib.hid M
 have HKID:=Lib.hid hkid
 have HMK:Hid (∀w',Fr S w w'->MkAt t mm mb lo v met st w'/\w'.cell? ⟨mm,0,none⟩=some (.pointer (some ⟨t,0,none⟩))):=Lib.hid fun w' hf=>by
  have h2:=h.sfr HM.out ⟨hB.1,hB.2.1,hB.2.2.1⟩ hf
  exact⟨h2,h2.self.cell 0⟩
 have c0:=(HMK.out _ (Fr.refl _)).2
 have HT:=Lib.hid hT
 clear M hbad h hT hok hkid
 go_enter Tryz.func93,Tryz.ntmps93
 go_wp2_with fail
 rcases hget with⟨n,hv,hlf,hG⟩ | ⟨hG,hget⟩
 ·have HG0:=Lib.hid (hG _ HT.out)
  have hD:=Lib.hid (fun W=>ndecode_any n (hfit.out n hv) W)
  have hk:Nd.kind n=1:=by unfold Nd.kind;rw[if_pos hlf]
  rw[hk]at hD
  have HK:=Lib.hid (HKID.out n hv)
  generalize Nd.str (Nd.enc n)=s at*
  clear hG hlf hk hfit HKID
  refine HG0.out.mono ?_
  rintro e w1 ⟨rfl,ht1,hf1⟩
  have HF1:=Lib.hid hf1
  have HT1:=Lib.hid (HM.out.less ht1 (Nat.le_succ _))
  clear ht1 hf1 HG0
  go_wp2_with fail
  refine(hD.out _).mono ?_
  rintro e w4 ⟨v4,rfl,hnf,hb4⟩
  have hz1:=HF1.out.size
  have hz4:=hb4.size
  obtain⟨A1,k1,A2,k2,A3,k3,rfl,rr⟩:=hnf
  have HNF:Hid (NF w1.heap.size w4 (nodeV n.leaf A1 n.ents.length k1 A2 n.kids.length k2 A3 n.keys.length k3) n):=Lib.hid ⟨A1,k1,A2,k2,A3,k3,rfl,rr⟩
  have HB4:=Lib.hid hb4
  have hbp:=Blk.new w4 32 #[.bool n.leaf, .slice A1 n.ents.length k1, .slice A2 n.kids.length k2, .slice A3 n.keys.length k3]
  have hbel:=(Below.refl w4.heap.size w4).alloc (Nat.le_refl _) (.cells #[.bool n.leaf, .slice A1 n.ents.length k1, .slice A2 n.kids.length k2, .slice A3 n.keys.length k3] 32)
  have b2:=hbp.cell 2
  have HBEL:=Lib.hid hbel
  clear hb4 rr hbp hbel
  unfold nodeV
  go_wp2_with fail
  refine(mread_push HM.out (HMK.out _ HF1.out).1 HT1.out ⟨hB.1,hB.2.1,hB.2.2.1,by omega⟩ n HK.out.1 HK.out.2 hml HB4.out HNF.out HBEL.out).mono ?_
  rintro e w6 ⟨rfl,v6,hat,htm,hfr,hob⟩
  have HAT:=Lib.hid hat
  have HTM:=Lib.hid htm
  have HF6:Hid (Fr (fun k=>S k\/MS mm mb v k) w w6):=Lib.hid ((HF1.out.more fun _=> .inl).trans (((Fr.of_below (HB4.out)).trans (.of_below HBEL.out)).trans (hfr.more fun _=> .inr)))
  clear hat htm hfr hob
  go_wp2
  go_ret
  exact .inl ⟨n,hv,rfl,v6,HAT.out,HTM.out,HF6.out⟩
 ·have HG0:=Lib.hid (hG _ HT.out)
  clear hG
  refine HG0.out.mono ?_
  rintro e w0 ⟨rfl,ht0,hf0⟩
  have HF0:=Lib.hid hf0
  have HT0:=Lib.hid ht0
  have c0:=(HMK.out _ hf0).2
  clear ht0 hf0 HG0
  go_wp2_with fail
  rcases hget with⟨n,hv,hlf,hG⟩ | ⟨hv,hG⟩
  ·have HG1:=Lib.hid (hG _ HT0.out)
   have hD:=Lib.hid (fun W=>ndecode_any n (hfit.out n hv) W)
   have hk:Nd.kind n=2:=by unfold Nd.kind;rw[if_neg (by rw[hlf];simp)]
   rw[hk]at hD
   have HK:=Lib.hid (HKID.out n hv)
   generalize Nd.str (Nd.enc n)=s at*
   clear hG hlf hk hfit HKID
   refine HG1.out.mono ?_
   rintro e w1 ⟨rfl,ht1,hf1⟩
   have HF1:=Lib.hid (HF0.out.trans hf1)
   have HT1:=Lib.hid ht1
   clear ht1 hf1 HG1
   go_wp2_with fail
   refine(hD.out _).mono ?_
   rintro e w4 ⟨v4,rfl,hnf,hb4⟩
   have hz1:=HF1.out.size
   have hz4:=hb4.size
   obtain⟨A1,k1,A2,k2,A3,k3,rfl,rr⟩:=hnf
   have HNF:Hid (NF w1.heap.size w4 (nodeV n.leaf A1 n.ents.length k1 A2 n.kids.length k2 A3 n.keys.length k3) n):=Lib.hid ⟨A1,k1,A2,k2,A3,k3,rfl,rr⟩
   have HB4:=Lib.hid hb4
   have hbp:=Blk.new w4 32 #[.bool n.leaf, .slice A1 n.ents.length k1, .slice A2 n.kids.length k2, .slice A3 n.keys.length k3]
   have hbel:=(Below.refl w4.heap.size w4).alloc (Nat.le_refl _) (.cells #[.bool n.leaf, .slice A1 n.ents.length k1, .slice A2 n.kids.length k2, .slice A3 n.keys.length k3] 32)
   have b2:=hbp.cell 2
   have HBEL:=Lib.hid hbel
   clear hb4 rr hbp hbel
   unfold nodeV
   go_wp2_with fail
   refine(mread_push HM.out (HMK.out _ HF1.out).1 HT1.out ⟨hB.1,hB.2.1,hB.2.2.1,by omega⟩ n HK.out.1 HK.out.2 hml HB4.out HNF.out HBEL.out).mono ?_
   rintro e w6 ⟨rfl,v6,hat,htm,hfr,hob⟩
   have HAT:=Lib.hid hat
   have HTM:=Lib.hid htm
   have HF6:Hid (Fr (fun k=>S k\/MS mm mb v k) w w6):=Lib.hid ((HF1.out.more fun _=> .inl).trans (((Fr.of_below (HB4.out)).trans (.of_below HBEL.out)).trans (hfr.more fun _=> .inr)))
   clear hat htm hfr hob
   go_wp2
   go_ret
   exact .inl ⟨n,hv,rfl,v6,HAT.out,HTM.out,HF6.out⟩
  ·have HG1:=Lib.hid (hG _ HT0.out)
   clear hG
   refine HG1.out.mono ?_
   rintro e w1 ⟨rfl,ht1,hf1⟩
   have HF1:=Lib.hid (HF0.out.trans hf1)
   have HT1:=Lib.hid ht1
   clear ht1 hf1 HG1
   go_wp2
   go_ret
   exact .inr ⟨hv,rfl,HT1.out,HF1.out.more fun _=> .inl⟩
end
def runOf(i:Int):Run:=(i,i)
section
variable {S:Nat->Prop}{B t K:Nat}{disk:Tp.Disk}{TM:Nat->Tp.Pst->World->Prop}{bad:Int->Prop}{w w':World}{r:Nat}{σ:Tp.Pst}
structure Closed(v:Int->Option Nd.Node)(bad:Int->Prop)(cs:List Int):Prop where
 ok:∀x∈cs,IdOk x
 page:∀x∈cs,(∃n,v x=some n/\(∀k∈n.kids,k=0\/k∈cs)/\n.kids.length<=100000)\/(v x=none/\bad x)
def MtEnd(S:Nat->Prop)(TM:Nat->Tp.Pst->World->Prop)(r:Nat)(σ:Tp.Pst)(vw:Int->Option Nd.Node)(bad:Int->Prop)(cs roots:List Int)(w:World)(e:Ending)(w':World):Prop:=
 Fr S w w'/\((∃v met out,e= .returned (.tuple #[v, .int .i64 0])/\Own w' w.heap.size v (Rp.norm (out.map runOf))/\Mk.Inv vw (· ∈cs) roots met [] out/\(∀x∈out,∃n,vw x=some n)/\TM (r+2*(cs.length-out.length)) σ w')\/
  (e= .returned (.tuple #[.slice none 0 0, .int .i64 3])/\(∃x∈cs,vw x=none/\bad x)/\TM r σ w'))
theorem Own.frB{base:Nat}{v:Value}{l:List Run}{S:Nat->Prop}{w w':World}(h:Own w base v l)(hf:Fr S w w')(hS:∀g,v.ownBlock=some g->¬S g):Own w' base v l:=by
 obtain⟨h1,h2⟩:=h
 refine⟨h1, ?_⟩
 rcases h2 with h2 | ⟨g,cap,cur,e1,e2,e3,e4⟩
 ·exact .inl h2
 ·exact .inr ⟨g,cap,cur,e1,e2,(hf.block g (Array.getElem?_eq_some_iff.1 e3).1 (hS g (by rw[e1];rfl))).trans e3,e4⟩
theorem own_ms{t mm mb lo base:Nat}{v v2:Value}{met st:List Int}{l:List Run}{w:World}(h:Own w base v l)(hat:MkAt t mm mb lo v2 met st w){g:Nat}(hg:v.ownBlock=some g):¬MS mm mb v2 g:=by
 obtain⟨cs,hb⟩:=own_obj h hg
 rintro(rfl | rfl | a)
 ·have:=hat.self
  unfold Blk at this
  rw[hb]at this
  injection this with this
  injection this with _ this
  revert this
  decide
 ·obtain⟨D,⟨es,ck,g1,_⟩,_⟩:=hat.map
  rw[hb]at g1
  cases g1
 ·obtain⟨cs',hb'⟩:=own_obj hat.row a
  rw[hb]at hb'
  injection hb' with hb'
  injection hb' with _ hb'
  revert hb'
  decide
theorem Mrd.runs{S:Nat->Prop}{B t K:Nat}{disk:Tp.Disk}{TM:Nat->Tp.Pst->World->Prop}(M:Mrd S B t K disk TM){r base:Nat}{σ:Tp.Pst}{w w':World}{v:Value}{l:List Run}(h:TM r σ w)(ho:Own w base v l)(hb:K<=base)(hg:w.grownBy w' v.ownBlock):TM r σ w':=by
 cases hv:v.ownBlock with
 |none=>rw[hv]at hg;exact M.below h (below_of_none hg (Nat.le_refl _))
 |some g=>
  obtain⟨cs,hc⟩:=own_obj ho hv
  refine M.run (g:=g) (cs:=cs) h (Nat.le_trans hb (World.ownsRow.lt ho g hv).1) hc ((Fr.of_grown hg).more fun k hk=> ?_)
  rw[hv]at hk
  injection hk with hk
  exact hk.symm
theorem inv_room{v:Int->Option Nd.Node}{cs roots met st out:List Int}(h:Mk.Inv v (· ∈cs) roots met st out):out.length+st.length<=cs.length:=by
 have:=List.Nodup.length_le_of_subset h.nd (fun x hx=>h.inn x ((h.mem x).2 (List.mem_append.1 hx)))
 simpa using this
theorem mtrees_any(M:Mrd S B t K disk TM)(hbad:BadGet S t TM bad)(cs roots:List Int)(hC:Closed (σ.view disk) bad cs)(hR:∀x∈roots,x=0\/x∈cs)(hcl:cs.length<=50000)(hrl:roots.length<=50000)
  (A:Option Addr) (c:Nat) (hls:LS intE w w.heap.size A roots) (hT:TM (r+2*cs.length) σ w) (hK:K<=w.heap.size):
  Calls Tryz.prog 33 #[.pointer (some ⟨t,0,none⟩), .slice A roots.length c] w (MtEnd S TM r σ (σ.view disk) bad cs roots w):=by
 have HM:=Lib.hid M
 have HC:=Lib.hid hC
 have hsz:=M.size hT
 have hmap0:=World.ownsMap_made w Tryz.prog 3 setR
 obtain⟨new,hpe,hinv⟩:=Mk.inv_start (v:=σ.view disk) (C:=(· ∈cs)) roots hR
 have hps:Hid (∀w1,Below w.heap.size w w1->MkAt t (w.heap.size+1) w.heap.size (w.heap.size+2) (.slice none 0 0) [] [] w1->w.heap.size+2<=w1.heap.size->Calls Tryz.prog 92 #[.pointer (some ⟨w.heap.size+1,0,none⟩), .slice A roots.length c] w1 (PsEnd t (w.heap.size+1) w.heap.size (w.heap.size+2) TM (r+2*cs.length) σ (.slice none 0 0) new new w1)):=Lib.hid fun w1 hb hat hz=>by
  have:=push_any M A c roots hat (M.below hT hb) ⟨by omega,by omega,by omega,hz⟩ (fun x hx=>(hR x hx).elim (fun e=>by subst e;unfold IdOk;omega) (hC.ok x)) ((hls.below hb).more (by omega)) (fun ad hn e a=>by
   obtain⟨ad',e',hb',_⟩:=hls.2 (List.length_pos_iff.2 hn)
   rw[e]at e'
   injection e' with e'
   subst e'
   rcases a with a | a | a
   ·omega
   ·omega
   ·cases a) (by omega) (by simp)
  rw[hpe]at this
  exact this
 have hmr:Hid (∀ (r':Nat) (w1:World) (v1:Value) (met1 st1:List Int) (id:Int),MkAt t (w.heap.size+1) w.heap.size (w.heap.size+2) v1 met1 st1 w1->TM (r'+2) σ w1->w.heap.size+2<=w1.heap.size->id∈cs->met1.length<=100000/\st1.length<=100000->
   Calls Tryz.prog 93 #[.pointer (some ⟨w.heap.size+1,0,none⟩), .int .i64 id] w1 (MrEnd S t (w.heap.size+1) w.heap.size (w.heap.size+2) TM r' σ v1 met1 st1 (σ.view disk id) w1)):=Lib.hid fun r' w1 v1 met1 st1 id hat ht hz hi hml=>
  mread_any M hbad hat ht ⟨by omega,by omega,by omega,hz⟩ id ((hC.page id hi).imp (fun⟨n,a,_⟩=>⟨n,a⟩) (fun a=>a)) (fun n hv=>by
   rcases hC.page id hi with⟨n',a,b,d⟩ | ⟨a,_⟩
   ·rw[hv]at a
    cases a
    exact⟨fun x hx=>(b x hx).elim (fun e=>by subst e;unfold IdOk;omega) (hC.ok x),d⟩
   ·rw[hv]at a;cases a) hml
 have hTA:Hid (∀w1,Below w.heap.size w w1->TM (r+2*cs.length) σ w1):=Lib.hid fun w1 hb=>M.below hT hb
 clear M hbad hC hls hT
 go_enter Tryz.func33,Tryz.ntmps33
 have hmm:= @run_makeMap Tryz.prog
 go_wp2_with fail
 have hbA:Below w.heap.size w ((w.alloc (.map #[] 0)).alloc (.cells #[.pointer (some ⟨t,0,none⟩), .map (some w.heap.size), .slice none 0 0] 162)):=((Below.refl _ w).alloc (Nat.le_refl _) _).alloc (by simp) _
 have hatA:MkAt t (w.heap.size+1) w.heap.size (w.heap.size+2) (.slice none 0 0) [] [] ((w.alloc (.map #[] 0)).alloc (.cells #[.pointer (some ⟨t,0,none⟩), .map (some w.heap.size), .slice none 0 0] 162)):=by
  refine⟨?_,LO.nil_ _ _,_,hmap0.alloc _,SetOf.nil⟩
  have:=Blk.new (w.alloc (.map #[] 0)) 162 #[.pointer (some ⟨t,0,none⟩), .map (some w.heap.size), .slice none 0 0]
  simpa using this
 refine(hps.out _ hbA hatA (by simp)).mono ?_
 rintro e w1 ⟨rfl,v1,hat1,ht1,hf1,hob1⟩
 have hF1:Fr S w w1:=Fr.old (S':=fun k=>S k\/MS (w.heap.size+1) w.heap.size (.slice none 0 0) k) ((Fr.of_below hbA).trans (hf1.more fun _=> .inr)) (fun k hk=>by
  rcases hk with hk | hk | hk | hk
  ·exact .inl hk
  ·exact .inr (by omega)
  ·exact .inr (by omega)
  ·cases hk)
 have hz1:w.heap.size+2<=w1.heap.size:=by have:=hf1.size;simp at this;exact this
 have HI:Hid (∃L v met st,(Value.slice none 0 0)=L/\MkAt t (w.heap.size+1) w.heap.size (w.heap.size+2) v met st w1/\TM (r+2*(cs.length-([]:List Int).length)) σ w1/\Own w1 w.heap.size L (([]:List Int).map runOf)/\Mk.Inv (σ.view disk) (· ∈cs) roots met st []/\(∀x∈([]:List Int),∃n,σ.view disk x=some n)/\Fr S w w1/\w.heap.size+2<=w1.heap.size/\met.length<=([]:List Int).length+st.length):=Lib.hid ⟨_,v1,new,new,rfl,hat1,by simpa using ht1,Own.nil_ _ _,hinv,fun x hx=>absurd hx List.not_mem_nil,hF1,hz1,by simp⟩
 clear hat1 ht1 hf1 hob1 hF1 hz1 hinv hpe hps hatA hbA hmap0 hTA
 go_wp2
 go_loopg [7] (cs.length) (fun gg s7 wr=>∃out:List Int,cs.length-out.length<=gg/\Hid (∃L v met st,s7=L/\MkAt t (w.heap.size+1) w.heap.size (w.heap.size+2) v met st wr/\TM (r+2*(cs.length-out.length)) σ wr/\Own wr w.heap.size L (out.map runOf)/\Mk.Inv (σ.view disk) (· ∈cs) roots met st out/\(∀x∈out,∃n,σ.view disk x=some n)/\Fr S w wr/\w.heap.size+2<=wr.heap.size/\met.length<=out.length+st.length))
 case atStart=>exact⟨[],by simp,HI⟩
 case round=>
  obtain⟨out,hg,HX⟩:=hrel
  obtain⟨L,v2,met,st,rfl,hat,htm,hown,hinv,hout,hfr,hz,hml⟩:=HX.out
  obtain⟨A3,c3,hL⟩:=hown.form
  rw[List.length_map]at hL
  subst hL
  have m0:=hat.self.cell 0
  have m2:=hat.self.cell 2
  have g2:=hat.self.frozen 2
  have hroom:=inv_room hinv
  rcases(show st= []\/∃st' id,st=st'++ [id]from by rcases List.eq_nil_or_concat st with h | ⟨a,b,h⟩;exact .inl h;exact .inr ⟨a,b,by simpa using h⟩)with rfl | ⟨st',id,rfl⟩
  ·obtain⟨A2,c2,rfl⟩:=hat.row.form
   have hN:=norm_end A3 c3 (out.map runOf) wr hown.rs (by simp;omega)
   rw[List.length_map]at hN
   have HN:=Lib.hid hN
   have HE:Hid (∀w3 v3,Own w3 wr.heap.size v3 (Rp.norm (out.map runOf))->Below wr.heap.size wr w3->MtEnd S TM r σ (σ.view disk) bad cs roots w (.returned (.tuple #[v3, .int .i64 0])) w3):=Lib.hid fun w3 v3 ho hb=>⟨hfr.trans (.of_below hb), .inl ⟨v3,met,out,rfl,ho.lower hfr.size,hinv,hout,HM.out.below htm hb⟩⟩
   clear hinv hout hfr htm hown hat HX hN
   simp only[List.length_nil]at m2
   go_wp2_with fail
   refine HN.out.mono ?_
   rintro e w3 ⟨v3,rfl,ho3,hb3⟩
   have HE3:=Lib.hid (HE.out _ _ ho3 hb3)
   clear ho3 hb3 HE HN
   go_wp2
   go_ret2
   exact HE3.out
  ·obtain⟨g,c2,rfl,hlo,hgl,hgc,hcell,hrow⟩:=hat.row.last
   have x0:=hcell 0 (by decide)
   have x1:wr.cell? ⟨g,st'.length,none⟩=some (.int .i64 id):=by simpa[intE]using x0
   have hsl:st'.length+1<=100000:=by simp at hroom;omega
   have hn2:(st'.length:Int)<=c2:=by omega
   have hwn:IntKind.i64.wrap ((st'.length:Int)+1-1)=(st'.length:Int):=(IntWalk.i64_in _ (by omega)).trans (by omega)
   have HAT:=Lib.hid hat
   have HROW:=Lib.hid hrow
   have HTM:=Lib.hid htm
   have HOWN:=Lib.hid hown
   have HINV:=Lib.hid hinv
   have HOUT:=Lib.hid hout
   have HFR:=Lib.hid hfr
   have hlt:=hat.self.lt
   clear hat hrow htm hown hinv hout hfr HX hcell x0
   go_wp2_with fail
   go_quiet (fail)
   go_wp2_with fail
   go_region
   go_wp2_with fail
   have hbd:Below wr.heap.size wr (wr.drewN (nq+1)):=below_drewN (Below.refl _ _) _
   have hatd:=HAT.out.below hbd
   have hfs:Fr (fun k=>k=w.heap.size+1) (wr.drewN (nq+1)) ((wr.drewN (nq+1)).setCell ⟨w.heap.size+1,2,none⟩ (.slice (some ⟨g,0,none⟩) st'.length c2)):=Fr.set_ (S:=fun k=>k=w.heap.size+1) rfl _
   have hmne:w.heap.size≠w.heap.size+1:=by omega
   have hat2:MkAt t (w.heap.size+1) w.heap.size (w.heap.size+2) (.slice (some ⟨g,0,none⟩) st'.length c2) met st' ((wr.drewN (nq+1)).setCell ⟨w.heap.size+1,2,none⟩ (.slice (some ⟨g,0,none⟩) st'.length c2)):=by
    obtain⟨D,d1,d2⟩:=hatd.map
    refine⟨?_,(LO.below HROW.out hbd).set_ hatd.self (by decide),D,d1.setCell hmne _,d2⟩
    have:=hatd.self.set_ 2 (.slice (some ⟨g,0,none⟩) st'.length c2)
    simpa using this
   have htm2:=HM.out.own (HM.out.below HTM.out hbd) hfs hatd.self (by omega) (by decide) (by decide) (by decide) (by decide)
   have hown2:=(Own.below HOWN.out hbd).frB hfs (fun g' hg' e=>own_ms (Own.below HOWN.out hbd) hatd hg' (.inl e))
   have hz2:wr.heap.size=((wr.drewN (nq+1)).setCell ⟨w.heap.size+1,2,none⟩ (.slice (some ⟨g,0,none⟩) st'.length c2)).heap.size:=by simp
   have HF2:Hid (Fr S w ((wr.drewN (nq+1)).setCell ⟨w.heap.size+1,2,none⟩ (.slice (some ⟨g,0,none⟩) st'.length c2))):=Lib.hid (Fr.old (S':=fun k=>S k\/k=w.heap.size+1) ((HFR.out.more fun _=> .inl).trans ((Fr.of_below hbd).trans (hfs.more fun _=> .inr))) (fun k hk=>hk.imp_right fun e=>by omega))
   have HOWN2:=Lib.hid hown2
   have HAT2:=Lib.hid hat2
   have hidc:id∈cs:=HINV.out.inn id ((HINV.out.mem id).2 (.inr (by simp)))
   have hol:out.length+(st'.length+1)<=cs.length:=by simpa using hroom
   have e1:r+2*(cs.length-out.length)=r+2*(cs.length-(out.length+1))+2:=by omega
   rw[e1]at htm2
   have hmet:met.length<=50000:=by
    simp only[List.length_append,List.length_cons,List.length_nil]at hml
    omega
   have HR:=hmr.out (r+2*(cs.length-(out.length+1))) _ _ met st' id hat2 htm2 (by rw[<-hz2];exact hz) hidc ⟨by omega,by omega⟩
   refine HR.mono ?_
   rintro e w3 (⟨n,hv,rfl,v3,hat3,htm3,hf3⟩ | ⟨hv,rfl,htm3,hf3⟩)
   ·have hpage:=HC.out.page id hidc
    have hkids:∀k∈n.kids,k=0\/k∈cs:=by
     rcases hpage with⟨n',a,b,_⟩ | ⟨a,_⟩
     ·rw[hv]at a;cases a;exact b
     ·rw[hv]at a;cases a
    obtain⟨met',st2,hrm,hinv3⟩:=HINV.out.step hv hkids
    have hrm2:Mk.push met st' n.kids=(met',st2):=by
     unfold Mk.readM at hrm
     rw[hv]at hrm
     injection hrm
    obtain⟨new,hpn,_⟩:=Mk.push_spec n.kids met st'
    have hl3:met'.length<=(out++ [id]).length+st2.length:=by
     rw[hrm2]at hpn
     injection hpn with q1 q2
     simp only[List.length_append,List.length_cons,List.length_nil]at hml ⊢
     rw[q1,q2,List.length_append,List.length_append]
     omega
    rw[hrm2]at hat3
    have hown3:=HOWN2.out.frB hf3 (fun g' hg' a=>by
     rcases a with a | a
     ·have:=HM.out.low g' a
      have:=(World.ownsRow.lt HOWN2.out g' hg').1
      omega
     ·exact own_ms HOWN2.out HAT2.out hg' a)
    have hraw:w3.ownsRow w.heap.size 106 2 (.slice A3 out.length c3) out.length (cellsR (out.map runOf)):=by have:=hown3;unfold Own at this;rwa [List.length_map]at this
    have hf3':Fr S w w3:=Fr.old (S':=fun k=>S k\/(S k\/MS (w.heap.size+1) w.heap.size (.slice (some ⟨g,0,none⟩) st'.length c2) k)) ((HF2.out.more fun _=> .inl).trans (hf3.more fun _=> .inr)) (fun k hk=>by
     rcases hk with hk | hk | hk | hk | hk
     ·exact .inl hk
     ·exact .inl hk
     ·exact .inr (by omega)
     ·exact .inr (by omega)
     ·have e:g=k:=by injection hk
      exact .inr (by omega))
    have hz3:w.heap.size+2<=w3.heap.size:=by have:=hf3.size;rw[<-hz2]at this;omega
    have H3:=Lib.hid (And.intro hown3 (And.intro hat3 (And.intro htm3 (And.intro hf3' hinv3))))
    have HL3:=Lib.hid hl3
    have HV:=Lib.hid hv
    have hbase:w.heap.size<=w3.heap.size:=by omega
    have hob:out.length<=50000:=by omega
    clear hown3 hat3 htm3 hf3 hf3' hinv3 hl3 hv hpage hkids hrm hrm2 hpn HR hml hown2 hat2 htm2 hatd hfs hbd e1 hz2
    go_wp2_with (at_builtin;refine wpList_app1 rfl _ _ 61 rfl eiRun Tryz.underlying61 rfl (by decide) rfl hraw rfl (by simp) rfl (by simp[Value.oneCell']) (by unfold maxLen;omega) (by omega) hbase ?_;intro v' w5 hown' hgrow hbel hob5 _)
    obtain⟨hown3,hat3,htm3,hf3',hinv3⟩:=H3.out
    have hg5:=Fr.of_grown hgrow
    have hat5:=hat3.fr hg5 (fun k hk=>own_ms hown3 hat3 hk)
    have htm5:=HM.out.runs htm3 hown3 hK hgrow
    have hown5:Own w5 w.heap.size v' ((out++ [id]).map runOf):=by
     rw[List.map_append]
     refine push_own (y:=runOf id) ?_
     rw[List.length_map]
     exact hown'
    have hf5:Fr S w w5:=Fr.old (S':=fun k=>S k\/(Value.slice A3 out.length c3).ownBlock=some k) ((hf3'.more fun _=> .inl).trans (hg5.more fun _=> .inr)) (fun k hk=>hk.imp_right fun e=>(World.ownsRow.lt hown3 k e).1)
    go_roundg (cs.length-(out.length+1))
    case measure=>omega
    case rel=>exact⟨out++ [id],by simp,Lib.hid ⟨_,v3,met',st2,rfl,hat5,by simpa using htm5,hown5,hinv3,fun x hx=>(List.mem_append.1 hx).elim (HOUT.out x) (fun a=>by rw[List.mem_singleton.1 a];exact⟨n,HV.out⟩),hf5,Nat.le_trans hz3 hgrow.size,HL3.out⟩⟩
   ·have hb:bad id:=by
     rcases HC.out.page id hidc with⟨n',a,_⟩ | ⟨_,a⟩
     ·rw[hv]at a;cases a
     ·exact a
    have hf3':Fr S w w3:=Fr.old (S':=fun k=>S k\/(S k\/MS (w.heap.size+1) w.heap.size (.slice (some ⟨g,0,none⟩) st'.length c2) k)) ((HF2.out.more fun _=> .inl).trans (hf3.more fun _=> .inr)) (fun k hk=>by
     rcases hk with hk | hk | hk | hk | hk
     ·exact .inl hk
     ·exact .inl hk
     ·exact .inr (by omega)
     ·exact .inr (by omega)
     ·have e:g=k:=by injection hk
      exact .inr (by omega))
    have HE:Hid (MtEnd S TM r σ (σ.view disk) bad cs roots w (.returned (.tuple #[.slice none 0 0, .int .i64 3])) w3):=Lib.hid ⟨hf3', .inr ⟨rfl,⟨id,hidc,hv,hb⟩,HM.out.less htm3 (by omega)⟩⟩
    clear hf3' hf3 htm3 hv hb HR hml hown2 hat2 htm2 hatd hfs hbd e1 hz2
    go_wp2
    go_ret2
    exact HE.out
end
theorem mem_runs(l:List Int)(n:Int):Rp.Mem (l.map runOf) n ↔ n∈l:=by
 unfold Rp.Mem
 constructor
 ·rintro⟨r,hr,h1,h2⟩
  obtain⟨x,hx,rfl⟩:=List.mem_map.1 hr
  unfold runOf at h1 h2
  simp only at h1 h2
  have:n=x:=by omega
  rw[this];exact hx
 ·intro h
  exact⟨runOf n,List.mem_map.2 ⟨n,h,rfl⟩,Int.le_refl _,Int.le_refl _⟩
theorem norm_runs{a b:List Int}(h:∀x,x∈a ↔ x∈b):Rp.norm (a.map runOf)=Rp.norm (b.map runOf):=
 Rp.canon_unique _ _ _ _ (Rp.norm_ok _).1 (Rp.norm_ok _).1 (fun n=>by rw[(Rp.norm_ok _).2,(Rp.norm_ok _).2,mem_runs,mem_runs,h])
theorem mem_norm_runs{a:List Int}(h:∀x∈a,IdOk x/\x<4294967296)(n:Int):Rp.Mem (Rp.norm (a.map runOf)) n ↔ n∈a:=by
 rw[(Rp.norm_ok _).2,mem_runs]
 constructor
 ·exact fun a=>a.1
 ·intro hn
  have:=h n hn
  unfold IdOk at this
  unfold Rp.Most
  exact⟨hn,by omega,by omega⟩
theorem rruns_any(A:Option Addr)(c:Nat)(l:List Int)(w:World)(hr:LS intE w w.heap.size A l)(hl:l.length<=1000000):
  Calls Tryz.prog 34 #[.slice A l.length c] w fun e w'=>∃v',e= .returned v'/\Own w' w.heap.size v' (Rp.norm (l.map runOf))/\Below w.heap.size w w':=by
 go_enter Tryz.func34,Tryz.ntmps34
 go_wp2
 go_loopw [3,4] (fun v i wr=>∃k:Nat,k<=l.length/\i= .int .i64 k/\Own wr w.heap.size v (nAt (l.map runOf) k)/\Below w.heap.size w wr) (fun _ i _=>l.length-(intOf i).toNat)
 case atStart=>exact⟨0,by omega,rfl,Own.nil_ _ _,Below.refl _ _⟩
 case round=>
  obtain⟨k,hk,rfl,hown,hbe⟩:=hrel
  obtain⟨n1,n2⟩:=nAt_ok (l.map runOf) k
  by_cases hlt:k<l.length
  ·have hki:(k:Int)<(l.length:Nat):=by omega
   obtain⟨b1,o1,rfl,hbl0,hc⟩:=(hr.below hbe).at_ hlt
   have h0:=hc 0 (by decide)
   have e1:o1+k*intE.size+0=o1+k:=by show o1+k*1+0=o1+k;omega
   rw[e1]at h0
   have h1:wr.cell? ⟨b1,o1+k,none⟩=some (.int .i64 l[k]):=h0
   have hsu:=nAt_succ (l.map runOf) k (by simpa using hlt)
   have HC:Hid (∀W,Below wr.heap.size wr W->Calls Tryz.prog 94 #[_, .agg #[.int .i64 l[k], .int .i64 l[k]]] W fun e w'=>∃v',e= .returned v'/\Own w' w.heap.size v' (nAt (l.map runOf) (k+1))/\Below W.heap.size W w'):=Lib.hid fun W hb=>by
    have:=put_any _ _ ((l.map runOf)[k]'(by simpa using hlt)) w.heap.size W (Own.below hown hb) (Nat.le_trans hbe.size hb.size) (by omega) (canon_inR _ 0 (Int.le_refl _) n1)
    rw[<-hsu]at this
    simp only[List.getElem_map]at this
    exact this
   have hwk:IntKind.i64.wrap ((k:Int)+1)=(k:Int)+1:=IntWalk.i64_in _ (by omega)
   clear hc h0 hsu
   generalize l[k]=y at*
   go_wp2_with fail
   have hS0:wr.drew.cell? ⟨b1,o1+k,none⟩=some (.int .i64 y):=h1
   have hbl:b1<wr.heap.size:=by have:=hbe.size;omega
   go_region_held3 (fun W=>W.cell? ⟨b1,o1+k,none⟩=some (.int .i64 y)) (first | exact hS0 | exact hS1)
    (first | (go_at_call 94;refine(HC.out _ (Below.refl _ _).drew).mono ?_;rintro e w1 ⟨v',rfl,ho',hb'⟩;have hS1:w1.cell? ⟨b1,o1+k,none⟩=some (.int .i64 y):=(hb'.cell (p:=⟨b1,o1+k,none⟩) hbl).trans hS0))
   go_wp2
   go_roundw
   case rel=>exact⟨k+1,by omega,by go_num,ho',hbe.trans (((Below.refl _ _).drew.trans hb').mono hbe.size)⟩
   case measure=>simp[intOf];omega
  ·obtain rfl:k=l.length:=by omega
   have hfin:nAt (l.map runOf) l.length=Rp.norm (l.map runOf):=by unfold nAt;rw[List.take_of_length_le (by simp)];rfl
   rw[hfin]at hown
   go_wp2
   go_ret
   exact⟨_,rfl,hown,hbe⟩
end Go.Proofs.YtjoiajmbfbjnnaaGreatDoor
namespace Go.Proofs.YtjoiajmbfbjnnaaGreatDoor
open Go.RowKit
def sAt(l:List Run)(k:Nat):Int:=Rp.size (l.take k)
theorem size_append(a b:List Run):Rp.size (a++b)=Rp.size a+Rp.size b:=by
 unfold Rp.size;rw[List.map_append,List.sum_append]
theorem sAt_succ(l:List Run)(k:Nat)(hk:k<l.length):sAt l (k+1)=sAt l k+(l[k].2-l[k].1+1):=by
 unfold sAt
 rw[List.take_succ_eq_append_getElem hk,size_append]
 simp[Rp.size]
theorem sAt_bd(l:List Run)(hin:∀y∈l,0<=y.1/\y.1<=y.2/\y.2<=4294967295)(k:Nat):0<=sAt l k/\sAt l k<=4294967296*(k:Int):=by
 induction k with
 |zero=>simp[sAt,Rp.size]
 |succ k ih=>
  by_cases hk:k<l.length
  ·rw[sAt_succ l k hk]
   have:=hin _ (List.getElem_mem hk)
   omega
  ·have e:sAt l (k+1)=sAt l k:=by unfold sAt;rw[List.take_of_length_le (by omega),List.take_of_length_le (by omega)]
   rw[e];omega
theorem count_any(A:Option Addr)(c:Nat)(l:List Run)(w:World)(hr:RS w w.heap.size A l)(hl:l.length<=1000000):Calls Tryz.prog 36 #[.slice A l.length c] w fun e w'=>e= .returned (.int .i64 (Rp.count l))/\Below w.heap.size w w':=by
 have hc:=hid_calls (norm_end A c l w hr hl)
 have hnl:=norm_len l
 have hin:=canon_run _ 0 (Int.le_refl _) (Rp.norm_ok l).1
 have he:Rp.count l=sAt (Rp.norm l) (Rp.norm l).length:=by unfold sAt Rp.count;rw[List.take_of_length_le (Nat.le_refl _)]
 rw[he]
 clear he
 generalize Rp.norm l=s at*
 obtain⟨q,hq⟩:∃q,q=sAt s s.length:=⟨_,rfl⟩
 rw[<-hq]
 have HQ:=Lib.hid hq
 clear hq
 go_enter Tryz.func36,Tryz.ntmps36
 go_wp2_with fail
 refine hc.out.mono ?_
 intro e w1 he
 obtain⟨A1,c1,rfl,_,r1,b1⟩:=he.open_
 clear he
 go_wp2
 go_loopw [3,9] (fun n i wr=>∃k:Nat,k<=s.length/\i= .int .i64 k/\n= .int .i64 (sAt s k)/\Below w1.heap.size w1 wr) (fun _ i _=>s.length-(intOf i).toNat)
 case atStart=>exact⟨0,by omega,rfl,rfl,Below.refl _ _⟩
 case round=>
  obtain⟨k,hk,rfl,rfl,hbe⟩:=hrel
  have hbd:=sAt_bd s hin k
  by_cases hlt:k<s.length
  ·obtain⟨b2,o2,rfl,_,g0,g1⟩:=(r1.below hbe).at_ hlt
   have hsu:=sAt_succ s k hlt
   have hy:=hin _ (List.getElem_mem hlt)
   generalize sAt s k=m at*
   have HSU:=Lib.hid hsu
   clear hsu
   generalize s[k]=y at*
   obtain⟨a,b⟩:=y
   simp only at hy g0 g1
   go_wp2
   go_roundw
   case rel=>exact⟨k+1,by omega,by go_num,by rw[HSU.out],hbe.alloc hbe.size _⟩
   case measure=>simp[intOf];omega
  ·obtain rfl:k=s.length:=by omega
   go_wp2
   go_ret
   exact⟨by rw[HQ.out];rfl,b1.trans (hbe.mono b1.size)⟩
end Go.Proofs.YtjoiajmbfbjnnaaGreatDoor
namespace Go.Proofs.YtjoiajmbfbjnnaaGreatDoor
open Go.RowKit Go.Shelf Go.Maps
theorem loadER:Extern.find Tryz.f161=some (Extern.Atomic.loadT (.int .i64)):=rfl
theorem peekr_any(d j:Nat)(x:Int)(w:World)(hc:w.cell? ⟨d,j,none⟩=some (.int .i64 x)):
  Calls Tryz.prog 91 #[.pointer (some ⟨d,j,none⟩)] w fun e w'=>e= .returned (.int .i64 x)/\w'=w:=by
 have hrun:=run_call_load (P:=Tryz.prog) (f:=161) Tryz.func161 (by kernel_rfl) (by kernel_rfl) (by kernel_rfl) .i64 loadER hc
 go_enter Tryz.func91,Tryz.ntmps91
 go_wp2
 go_ret
 exact⟨rfl,rfl⟩
def RdAt(d:Nat)(R:Int)(w:World):Prop:=w.cell? ⟨d,5,none⟩=some (.int .i64 R)/\d<w.heap.size
theorem reads_any{w:World}{d:Nat}{R:Int}(h:RdAt d R w):
  Calls Tryz.prog 32 #[.pointer (some ⟨d,0,none⟩)] w fun e w'=>e= .returned (.int .i64 R)/\w'=w:=by
 obtain⟨hc,hlt⟩:=h
 have hp:=peekr_any d 5 R w hc
 go_enter Tryz.func32,Tryz.ntmps32
 go_wp2_with fail
 refine Calls.mono hp ?_
 rintro e w1 ⟨rfl,rfl⟩
 go_wp2
 go_ret
 exact⟨rfl,rfl⟩
theorem FFile.At.rd{F:FFile}{w:World}{R:Int}(h:F.At w R):RdAt F.d R w:=by
 have h6:=h.disk.self.cell 5
 simp only[dkCells]at h6
 exact⟨h6,h.disk.self.lt⟩
theorem RdAt.below{d:Nat}{R:Int}{w w':World}(h:RdAt d R w)(hb:Below w.heap.size w w'):RdAt d R w':=⟨(hb.cell (p:=⟨d,5,none⟩) h.2).trans h.1,Nat.lt_of_lt_of_le h.2 hb.size⟩
section
variable {w0 W W':World}{f0 d0 n N r t:Nat}{disk:Tp.Disk}{P:Int}{rs all:List Int}
def BmEnd(d0:Nat)(R:Int)(all:List Int)(W:World)(e:Ending)(w':World):Prop:=
 ∃ (v:Value) (out:List Int) (R':Int),e= .returned (.tuple #[v, .int .i64 0])/\Own w' W.heap.size v (Rp.norm (out.map runOf))/\out.Nodup/\(∀x,x∈out ↔ x∈all)/\(∀x∈out,2<=x/\x<=16384)/\RdAt d0 R' w'/\0<=R'/\R'<=R+2*out.length/\Fr (fun k=>k=d0) W w'
theorem beg_mark(h:Beg w0 f0 d0 n N r t disk P W)(hn:n<=16384)(hall:AllOf disk rs all)(hr:2*all.length<=r)(hl:all.length<=50000/\rs.length<=50000)(A:Option Addr)(c:Nat)(hls:LS intE W W.heap.size A rs)(R:Int)(hR:RdAt d0 R W):
  Calls Tryz.prog 33 #[.pointer (some ⟨t,0,none⟩), .slice A rs.length c] W (BmEnd d0 R all W):=by
 obtain⟨⟨F,B,m,e1,e2,e3,e4,e5,e6,e7,e8⟩,h1,h2,h3,h4⟩:=h
 obtain⟨t1,t2,t3,t4,t5,t6,R0,r1,r2,hA⟩:=e5
 have hRR:R0=R:=by
  have h5:=hA.rd.1
  rw[e2]at h5
  have h6:=h5.symm.trans hR.1
  injection h6 with h6
  injection h6
 have hv:∀root es tok ids,Tp.VerAt disk root es tok ids->Tp.VerAt ((Tp.start [] P).view disk) root es tok ids/\∀x∈ids,2<=x/\x<=16384:=fun root es tok ids hv=>by
  refine⟨hv.congr fun x hx=> ?_,fun x hx=> ?_⟩<;>obtain⟨y,hy⟩:=hv.some_ x hx
  ·exact Tp.view_used t5.ap (t6.page x y hy).2.1
  ·have:=t5.ap.hu x (t6.page x y hy).2.1
   have:=t5.ap.pg
   omega
 have hfit:∀x y,(Tp.start [] P).view disk x=some y->Nd.fits y=true:=fun x y hy=>(TMd.ht_ ⟨t1,t2,t3,t4,t5,t6,R0,r1,r2,hA⟩ hy).1
 have hC:Closed ((Tp.start [] P).view disk) (fun _=>False) all:=by
  refine⟨fun x hx=> ?_,fun x hx=> .inl ?_⟩<;>obtain⟨root,es,tok,ids,q1,q2,q3,q4⟩:=hall.inn x hx<;>obtain⟨p1,p2⟩:=hv _ _ _ _ q2
  ·have:=p2 x q3
   unfold IdOk
   omega
  ·rcases p1 with⟨_,_,rfl⟩ | ⟨hh,s,a,rfl,b,d,ht,_⟩
   ·exact absurd q3 List.not_mem_nil
   ·obtain⟨y,y1,y2⟩:=Mk.tr_kids ht x q3
    exact⟨y,y1,fun k hk=> .inr (q4 k (y2 k hk)),(fits_nb (hfit _ _ y1)).i⟩
 obtain⟨rr,hrr⟩:∃rr:Nat,(rr:Int)+2*(all.length:Int)=900000000000-R0:=⟨(900000000000-R0-2*(all.length:Int)).toNat,by omega⟩
 have hT:TMd F B t m n (Rp.minus [(2,P-1)] []) disk (rr+2*all.length) (Tp.start [] P) W:=⟨t1,t2,t3,t4,t5,t6,R0,r1,by omega,hA⟩
 have M:=mrd_disk F (B:=B) (t:=t) (m:=m) t1.1 e6 (by have:=(t2 F.d (.inr (.inl rfl))).1;omega) n W.heap.size t1.2.2 (Rp.minus [(2,P-1)] []) disk
 refine(mtrees_any (bad:=fun _=>False) M (by intro r σ w id _ hb;exact hb.elim) all rs hC hall.root hl.1 hl.2 A c hls hT.tmr (Nat.le_refl _)).mono ?_
 rintro e w' ⟨hf,⟨v,met,out,rfl,hown,hinv,hgood,htm⟩ | ⟨_,⟨x,_,_,hb⟩,_⟩⟩
 ·have hmo:∀x,x∈met ↔ x∈out:=fun x=>by rw[hinv.mem];simp
  have hnd:out.Nodup:=by have:=hinv.nd;simpa using this
  have hoa:∀x∈out,x∈all:=fun x hx=>hinv.inn x ((hmo x).2 hx)
  have hlen:out.length<=all.length:=List.Nodup.length_le_of_subset hnd hoa
  obtain⟨R',s1,s2,s3⟩:=htm.tm.file
  refine⟨v,out,R',rfl,hown,hnd,fun x=>⟨hoa x,fun hx=> ?_⟩,fun x hx=> ?_,e2 ▸ s3.rd,s1,by omega,e2 ▸ hf⟩
  ·obtain⟨root,es,tok,ids,q1,q2,q3,_⟩:=hall.inn x hx
   obtain⟨p1,p2⟩:=hv _ _ _ _ q2
   exact hinv.done q1 p1 (fun i hi=>by have:=p2 i hi;omega) x q3
  ·obtain⟨root,es,tok,ids,q1,q2,q3,_⟩:=hall.inn x (hoa x hx)
   exact(hv _ _ _ _ q2).2 x q3
 ·exact hb.elim
end
theorem beg_rd{w0 W:World}{f0 d0 n N r t:Nat}{disk:Tp.Disk}{P:Int}(h:Beg w0 f0 d0 n N r t disk P W):∃R,0<=R/\R<=900000000000/\RdAt d0 R W/\w0.heap.size<=d0:=by
 obtain⟨⟨F,B,m,e1,e2,e3,e4,e5,e6,e7,e8⟩,h1,h2,h3,h4⟩:=h
 obtain⟨R,r1,r2,hA⟩:=e5.file
 have hdB:=hA.disk.le.1
 exact⟨R,r1,by omega,e2 ▸ hA.rd,by omega⟩
theorem count_runs{l:List Int}(hn:l.Nodup)(hb:∀x∈l,2<=x/\x<=16384):Rp.count (Rp.norm (l.map runOf))=(l.length:Int):=by
 have hm:=mem_norm_runs (a:=l) (fun x hx=>by have:=hb x hx;unfold IdOk;omega)
 have e:Rp.norm (Rp.norm (l.map runOf))=Rp.norm (l.map runOf):=Rp.canon_unique _ _ _ _ (Rp.norm_ok _).1 (Rp.norm_ok _).1 (fun n=>by
  rw[(Rp.norm_ok (Rp.norm (l.map runOf))).2]
  exact⟨fun a=>a.1,fun a=>⟨a,((Rp.norm_ok _).2 n).1 a |>.2⟩⟩)
 rw[Rp.count_nums,e]
 have hp:(Rp.nums (Rp.norm (l.map runOf))).Perm l:=(List.perm_ext_iff_of_nodup (Rp.nums_nodup _ 0 (Rp.norm_ok _).1) hn).2 (fun x=>by rw[Rp.mem_nums,hm])
 rw[hp.length_eq]
section
variable {F:FFile}{n:Nat}{a:TAd}{used:List Run}{disk:Tp.Disk}{root:Int}{σ:Tp.Pst}{ids:List Int}{es:List Ent}{tok r:Nat}{W w':World}
def FmEnd(F:FFile)(n:Nat)(a:TAd)(used:List Run)(disk:Tp.Disk)(root:Int)(σ:Tp.Pst)(ids:List Int)(es:List Ent)(tok r:Nat)(cs:List Int)(W:World)(e:Ending)(w':World):Prop:=
 ∃v,e= .returned (.tuple #[v, .int .i64 0])/\Own w' W.heap.size v (Rp.norm (cs.map runOf))/\FSt F n a used disk root σ ids es tok r w'/\Fr (fun k=>k=F.d) W w'
theorem fst_mark(cs rs:List Int)(h:FSt F n a used disk root σ ids es tok (r+2*cs.length) W)(hc:(rs= []/\cs= [])\/(rs= [root]/\cs=ids))(hil:ids.length<=50000)(A:Option Addr)(c:Nat)(hls:LS intE W W.heap.size A rs):
  Calls Tryz.prog 33 #[.pointer (some ⟨a.t,0,none⟩), .slice A rs.length c] W (FmEnd F n a used disk root σ ids es tok r cs W):=by
 obtain⟨hv,hp⟩:=h.newv
 have htm:=h.on.tm
 have hdt:F.d≠a.t:=by have:=(htm.sep F.d (.inr (.inl rfl))).1;omega
 have M:=mrd_disk F (B:=a.B) (t:=a.t) (m:=a.m) htm.low.1 h.hd hdt n W.heap.size htm.low.2.2 used disk
 have hC:Closed (σ.view disk) (fun _=>False) cs:=by
  rcases hc with⟨_,rfl⟩ | ⟨_,rfl⟩
  ·exact⟨fun x hx=>absurd hx List.not_mem_nil,fun x hx=>absurd hx List.not_mem_nil⟩
  ·refine⟨fun x hx=> ?_,fun x hx=> .inl ?_⟩
   ·obtain⟨y,hy⟩:=hv.some_ x hx
    exact(htm.ht_ hy).2
   ·rcases hv with⟨_,_,rfl⟩ | ⟨hh,s,q1,rfl,q2,q3,ht,_⟩
    ·exact absurd hx List.not_mem_nil
    ·obtain⟨y,y1,y2⟩:=Mk.tr_kids ht x hx
     exact⟨y,y1,fun k hk=> .inr (y2 k hk),(fits_nb (htm.ht_ y1).1).i⟩
 have hR:∀x∈rs,x=0\/x∈cs:=by
  rcases hc with⟨rfl,_⟩ | ⟨rfl,rfl⟩
  ·exact fun x hx=>absurd hx List.not_mem_nil
  ·intro x hx
   rw[List.mem_singleton.1 hx]
   rcases hv with⟨q,_,_⟩ | ⟨hh,s,q1,q2,_,_,ht,_⟩
   ·exact .inl q
   ·exact .inr (by rw[<-q1, <-q2];exact Tp.tr_id ht)
 have hl:cs.length<=50000/\rs.length<=50000:=by rcases hc with⟨rfl,rfl⟩ | ⟨rfl,rfl⟩<;>simp<;>omega
 refine(mtrees_any (bad:=fun _=>False) M (by intro r σ w id _ hb;exact hb.elim) cs rs hC hR hl.1 hl.2 A c hls htm.tmr (Nat.le_refl _)).mono ?_
 rintro e w' ⟨hf,⟨v,met,out,rfl,hown,hinv,hgood,htm'⟩ | ⟨_,⟨x,_,_,hb⟩,_⟩⟩
 ·have hmo:∀x,x∈met ↔ x∈out:=fun x=>by rw[hinv.mem];simp
  have hoa:∀x,x∈out ↔ x∈cs:=fun x=>⟨fun hx=>hinv.inn x ((hmo x).2 hx),fun hx=>by
   rcases hc with⟨_,rfl⟩ | ⟨rfl,rfl⟩
   ·exact absurd hx List.not_mem_nil
   ·exact hinv.done (List.mem_singleton.2 rfl) hv hp x hx⟩
  rw[norm_runs hoa]at hown
  have hu:a.u≠F.d:=by have:=h.on.hu;have:=h.hd;omega
  exact⟨v,rfl,hown,h.with_ ⟨htm'.tm.less (by omega),hf.blk h.on.self hu,h.on.hu⟩,hf⟩
 ·exact hb.elim
theorem ver_one{v:Int->Option Nd.Node}{x:Ent}(h:Tp.VerAt v root [x] tok ids)(ht:tok<=1):ids= [root]:=by
 rcases h with⟨_,h,_⟩ | ⟨hh,s,rfl,rfl,q2,q3,ht',_,q5⟩
 ·cases h
 ·have h0:hh=0:=by
   rcases q5 with q5 | q5
   ·exact q5
   ·have:=Nat.pow_pos (n:=hh-1) (show 0<6 by decide)
    omega
  subst h0
  obtain⟨_,b,_⟩:=ht'
  exact b
end
theorem works21_any(w:World)(hT:HT w):Calls Tryz.prog 24 #[] w (TrueEnd21 w):=by
 have HHT:=Lib.hid hT
 have HD:=Lib.hid (fun W=>dfresh_any 40 W)
 rw[show diskN 40=40 by decide]at HD
 clear hT
 go_enter Tryz.func24,Tryz.ntmps24
 go_wp2_with fail
 refine(HD.out _).mono ?_
 rintro e w2 ⟨d,rfl,hd,b2⟩
 have HFF:=Lib.hid (ffresh_any hd b2.size)
 have HB2:=Lib.hid b2
 clear hd b2 HD
 go_wp2_with fail
 refine HFF.out.mono ?_
 rintro e w3 ⟨f,rfl,hf,b3⟩
 have hB3:=HB2.out.trans (b3.mono HB2.out.size)
 have hst:Stg w f d 40 0 20000 noDisk 2 w3:=stg_start (by decide) (by decide) hf (HHT.out.below hB3 HHT.out.1) (Nat.le_refl _) HHT.out.1 (Nat.le_trans HB2.out.size b3.size) hB3 (by decide)
 have HNW:=Lib.hid (stg_new hst (by decide))
 clear hf b3 hB3 HFF HB2 hst
 go_wp2_with fail
 refine Calls.mono HNW.out ?_
 rintro e w4 ⟨t,rfl,hbg,b4⟩
 have HTR:=Lib.hid (beg_tree (K:=1) (R0:=20000-288) (D:=20) (T:=0) hbg (by decide) (Tp.VerAt.none_ _ _) (Nat.le_refl _) (by decide) (by decide))
 clear hbg b4 HNW
 go_wp2_with fail
 refine Calls.mono HTR.out ?_
 rintro e w5 ⟨u,rfl,hg5,b5,hu5⟩
 have HP:=Lib.hid (gng_put hg5 (by decide) (by decide) (by decide) (s:=⟨#[97]⟩) (v:=⟨#[49]⟩) (by kernel_rfl))
 clear hg5 b5 hu5 HTR
 go_wp2_with fail
 refine HP.out.mono ?_
 rintro e w6 ⟨rfl,h6,kp6,_⟩
 obtain⟨⟨F,a,_,hFd,_,hFB,_,rfl,rfl,h1⟩,_,_⟩:=h6
 have hes:En.put [] ⟨#[97]⟩ ⟨#[49]⟩= [(⟨#[97]⟩,⟨#[49]⟩)]:=by kernel_rfl
 rw[hes]at h1
 obtain⟨root,σ,ids,tok,hst,htk,_⟩:=h1.at_
 have hid:ids= [root]:=ver_one hst.newv.1 (by omega)
 subst hid
 have hrg:=Tp.use_range (room:=max (40:Int) 2) hst.ap (hst.rt.uses root (by simp))
 have HB6:=Lib.hid h1.below
 have hst1:=hst.less (r':=100+2*1) (by omega)
 have HRT:=Lib.hid (troot_any a.u root 0 w6 hst.on.self)
 have hcnt:=count_runs (l:= [root]) (by simp) (fun x hx=>by rw[List.mem_singleton.1 hx];omega)
 have hhas:Rp.has (Rp.norm ([root].map runOf)) root=true:=(Rp.has_iff _ _).2 ⟨by omega,by unfold Rp.Most;omega,(mem_norm_runs (fun x hx=>by rw[List.mem_singleton.1 hx];unfold IdOk;omega) root).2 (by simp)⟩
 have hll:=norm_len ([root].map runOf)
 have hbA:Below w6.heap.size w6 (w6.alloc (.cells #[.int .i64 root] 3)):=(Below.refl _ w6).alloc (Nat.le_refl _) _
 have hls:LS intE (w6.alloc (.cells #[.int .i64 root] 3)) (w6.alloc (.cells #[.int .i64 root] 3)).heap.size (some ⟨w6.heap.size,0,none⟩) [root]:=(LO.one (E:=intE) (base:=0) rfl rfl (Blk.new w6 3 #[.int .i64 root]) (Nat.zero_le _)).ls
 have HM1:=Lib.hid (fst_mark [root] [root] (hst1.below hbA) (.inr ⟨rfl,rfl⟩) (by simp) _ 1 hls)
 unfold FmEnd at HM1
 generalize Rp.norm ([root].map runOf)=L at HM1 hcnt hhas hll
 have hl1:L.length<=1000000:=Nat.le_trans hll (by simp)
 have HCN:=Lib.hid hcnt
 have HHA:=Lib.hid hhas
 clear hcnt hhas hll
 have hdz:F.d<w6.heap.size:=Nat.lt_of_lt_of_le hst.hd hst.on.tm.low.2.2
 have HBA:=Lib.hid (HB6.out.trans (hbA.mono HB6.out.size))
 have hwd:w.heap.size<=F.d:=by
  obtain⟨R,_,_,hA⟩:=hst.on.tm.file
  have:=hA.disk.le.1
  omega
 clear h1 kp6 hes hst htk hst1 hls hbA HP
 go_wp2_with fail
 refine HRT.out.mono ?_
 rintro e wq ⟨rfl,hwq⟩
 obtain rfl:=hwq
 go_wp2_with fail
 refine HM1.out.mono ?_
 rintro e w7 ⟨v,rfl,hown,hst7,hf7⟩
 obtain⟨A7,c7,rfl⟩:=hown.form
 have HM2:=Lib.hid (fst_mark [] [] (r:=100) hst7 (.inl ⟨rfl,rfl⟩) (by simp) none 0 LS.nil_)
 have HOWN:=Lib.hid hown
 have HB7:=Lib.hid (HBA.out.trans (hf7.low HBA.out.size (fun k hk=>by omega)))
 clear hown hst7 hf7 HM1 HBA HRT
 go_wp2_with fail
 refine HM2.out.mono ?_
 rintro e w8 ⟨v8,rfl,hown8,hst8,hf8⟩
 obtain⟨A8,c8,h8⟩:=hown8.form
 rw[show(Rp.norm (([]:List Int).map runOf)).length=0 from rfl]at h8
 subst h8
 have hob:∀g,(Value.slice A7 L.length c7).ownBlock=some g->¬g=F.d:=fun g hg e=>by
  have h:=(World.ownsRow.lt HOWN.out g hg).1
  rw[World.size_alloc]at h
  omega
 have HO8:=Lib.hid (HOWN.out.frB hf8 hob)
 have HST8:=Lib.hid hst8
 have HB8:=Lib.hid (HB7.out.trans (hf8.low HB7.out.size (fun k hk=>by omega)))
 clear hown8 hst8 hf8 HM2 HB7 HOWN hob
 have HCT:=Lib.hid (count_any A7 c7 L w8 HO8.out.rs hl1)
 rw[HCN.out]at HCT
 go_wp2_with fail
 refine Calls.mono HCT.out ?_
 rintro e w9 ⟨rfl,hb9⟩
 have HRT9:=Lib.hid (troot_any a.u root 0 w9 (HST8.out.below hb9).on.self)
 have HHS:=Lib.hid (has_any A7 c7 L root w9 (HO8.out.below hb9).rs hl1)
 rw[HHA.out]at HHS
 have HB9:=Lib.hid (HB8.out.trans (hb9.mono HB8.out.size))
 clear hb9 HCT HO8 HST8 HB8 HHA
 go_wp2_with fail
 refine HRT9.out.mono ?_
 rintro e wq ⟨rfl,hwq⟩
 obtain rfl:=hwq
 go_wp2_with fail
 refine Calls.mono HHS.out ?_
 rintro e w10 ⟨rfl,hb10⟩
 have HB10:=Lib.hid (HB9.out.trans (hb10.mono HB9.out.size))
 clear hb10
 go_wp2
 go_ret
 exact⟨rfl,HB10.out⟩
end Go.Proofs.YtjoiajmbfbjnnaaGreatDoor
namespace Go.Proofs.YtjoiajmbfbjnnaaGreatDoor
open Go.RowKit Go.ChangeShapes Go.WideShapes Go.Deep
section
variable {H:Type}{enc:TypeId × Value->H}{P:Program}{w:World}{base:Nat}{spare:Nat->Bool}{held:Bool}
theorem open_slice_fields{t e:TypeId}{fs:Array Field}{fuel:Nat}{cs:List Value}{x:DataW H × List MemPlace}(ht:P.underlying t=some (.slice e))(he:P.underlying e=some (.struct fs))
  (hone:oneCellFields P fs=true) (hC:P.cellsOf e=fs.size) (h:DataW.trod enc P w base spare held fuel t cs=some x):
  (cs= [.slice none 0 0]/\x=(.nil, []))\/
  ∃ (a:Addr) (len cap m:Nat) (D:Nat->DataW H) (Pl:Nat->List MemPlace),cs= [.slice (some a) len cap]/\base<=a.block/\len<=cap/\cap<=maxLen/\m=(if spare a.block then cap else len)/\
   x=(.slice ((List.range len).map D) ((List.range (m-len)).map fun j=>D (len+j)),MemPlace.row a (m*fs.size)++(List.range m).flatMap Pl)/\
   ∀i,i<m->∃ (ys:List (DataW H × List MemPlace)) (n:Nat),D i= .agg (ys.map (·.1))/\Pl i=ys.flatMap (·.2)/\ys.length=fs.size/\
    ∀ (j:Nat) (f:Field),fs[j]? =some f->∃ (v:Value) (y:DataW H × List MemPlace),w.cell? (a.add (i*fs.size+j))=some v/\ys[j]? =some y/\DataW.trod enc P w base spare held n f.type [v]=some y:=by
 rcases open_slice ht h with h0 | ⟨a,len,cap,m,n,D,Pl,hcs,hb,hl,hm,hmm,hx,hi⟩
 ·exact .inl h0
 ·refine .inr ⟨a,len,cap,m,D,Pl,hcs,hb,hl,hm,hmm,by rw[hC]at hx;exact hx,fun i him=> ?_⟩
  obtain⟨cs',hc,ht'⟩:=hi i him
  rw[hC]at hc
  obtain⟨ys,n',hn',hy,hlen,hyl,hf⟩:=DataW.trod_struct he ht'
  obtain⟨_,hcl,hat⟩:=World.cells?_some hc
  simp only[Prod.mk.injEq]at hy
  refine⟨ys,n',hy.1,hy.2,hyl,fun j f hj=> ?_⟩
  obtain⟨ho,hk⟩:=hone_of hone j f hj
  have hjl:j<fs.size:=(Array.getElem?_eq_some_iff.1 hj).1
  have hcell:=hat j hjl
  have hv:cs'[j]? =some (cs'[j]'(by omega)):=List.getElem?_eq_getElem (by omega)
  have h1:=hf j f hj
  rw[ho,hk]at h1
  have hone':(cs'.drop j).take 1= [cs'[j]'(by omega)]:=by
   rw[List.drop_eq_getElem_cons (by omega)]
   rfl
  rw[hone']at h1
  have hys:ys[j]? =some (ys[j]'(by omega)):=List.getElem?_eq_getElem (by omega)
  refine⟨_,_, ?_,hys,h1.trans hys⟩
  rw[<-Go.Deep.add_add,hcell,hv]
end
section
variable {H:Type}{enc:TypeId × Value->H}
theorem open_entsE{W:World}{A:Option Addr}{len cap:Nat}{d:DataW H}{p:List MemPlace}(h:DataW.Trod enc Tryz.prog W 0 (fun _=>true) true 28 (.slice A len cap) d p):
  ∃l:List Ent,l.length=len/\LS entE W W.heap.size A l:=by
 obtain⟨fuel,hf⟩:=h
 rcases open_slice_fields Tryz.underlying28 Tryz.underlying34 (by kernel_rfl) (by kernel_rfl) hf with⟨hcs,_⟩ | ⟨a,len',cap',m,D,Pl,hcs,_,hl,hm,hmm,hx,hi⟩
 ·simp[Value.cells]at hcs
  obtain⟨rfl,rfl,rfl⟩:=hcs
  exact⟨[],rfl,LS.nil_⟩
 ·simp[Value.cells]at hcs
  obtain⟨rfl,rfl,rfl⟩:=hcs
  simp only[if_true]at hmm
  subst hmm
  have key:∀i,∃r:Ent,i<len->(W.cell? (a.add (i*2))=some (.string r.1)/\W.cell? (a.add (i*2+1))=some (.string r.2)):=by
   intro i
   by_cases hil:i<len
   ·obtain⟨ys,n,_,_,hys,hfld⟩:=hi i (by omega)
    obtain⟨v0,y0,hc0,_,t0⟩:=hfld 0 _ rfl
    obtain⟨v1,y1,hc1,_,t1⟩:=hfld 1 _ rfl
    obtain⟨x0,e0,_⟩:=DataW.trod_string Tryz.underlying9 t0
    obtain⟨x1,e1,_⟩:=DataW.trod_string Tryz.underlying9 t1
    simp at e0 e1
    subst e0 e1
    exact⟨⟨x0,x1⟩,fun _=>⟨hc0,hc1⟩⟩
   ·exact⟨⟨⟨#[]⟩,⟨#[]⟩⟩,fun h=>absurd h hil⟩
  obtain⟨f,hfs⟩:∃f:Nat->Ent,∀i,i<len->(W.cell? (a.add (i*2))=some (.string (f i).1)/\W.cell? (a.add (i*2+1))=some (.string (f i).2)):=⟨fun i=>Classical.choose (key i),fun i=>Classical.choose_spec (key i)⟩
  clear key
  refine⟨(List.range len).map f,by simp,⟨entE.cells_length _,fun hpos=>⟨a,rfl, ?_, ?_⟩⟩⟩
  ·have:=(hfs 0 (by simpa using hpos)).1
   have hb:=World.block_lt_of_cell? W _ this
   rwa [block_of_add]at hb
  ·intro j u hu
   have hjl:j<len*2:=by
    have:=(List.getElem?_eq_some_iff.1 hu).1
    rw[entE.cells_length]at this;simpa[entE]using this
   have h0:=entE.cells_at ((List.range len).map f) (j / 2) (by simp;omega) (j % 2) (by show j % 2<2;omega)
   have e:j / 2*entE.size+j % 2=j:=by show j / 2*2+j % 2=j;omega
   rw[e,hu]at h0
   simp only[List.getElem_map,List.getElem_range]at h0
   have hs:=hfs (j / 2) (by omega)
   have hm:j % 2=0\/j % 2=1:=by omega
   rcases hm with hm | hm
   ·rw[hm]at h0;injection h0 with h0;subst h0;rw[<-hs.1,show j / 2*2=j by omega]
   ·rw[hm]at h0;injection h0 with h0;subst h0;rw[<-hs.2,show j / 2*2+1=j by omega]
end
abbrev Sl:=Option Addr × Nat × Nat
def slE:Enc Sl:=⟨fun x=> [.slice x.1 x.2.1 x.2.2],1,fun _=>rfl,by decide,fun x u hu=>by simp at hu;subst hu;rfl⟩
theorem LS.sl{w:World}{B:Nat}{A:Option Addr}{l:List Sl}(h:LS slE w B A l){k:Nat}(hk:k<l.length):∃b off,A=some ⟨b,off,none⟩/\b<B/\w.cell? ⟨b,off+k,none⟩=some (.slice l[k].1 l[k].2.1 l[k].2.2):=by
 obtain⟨b,off,rfl,hb,hc⟩:=h.at_ hk
 have h0:=hc 0 (by decide)
 exact⟨b,off,rfl,hb,by simpa[slE]using h0⟩
section
variable {H:Type}{enc:TypeId × Value->H}
theorem open_entsS{W:World}{A:Option Addr}{len cap:Nat}{d:DataW H}{p:List MemPlace}(h:DataW.Trod enc Tryz.prog W 0 (fun _=>true) true 50 (.slice A len cap) d p):
  ∃ (l:List Sl) (f:List (List Ent)),l.length=len/\f.length=len/\LS slE W W.heap.size A l/\∀i (h1:i<l.length) (h2:i<f.length),f[i].length=l[i].2.1/\LS entE W W.heap.size l[i].1 f[i]:=by
 obtain⟨fuel,hf⟩:=h
 rcases DataW.trod_slice Tryz.underlying50 hf with⟨hcs,_⟩ | ⟨a,len',cap',elems,rest,n,_,hcs,_,hb,hl,hm,hlen,hel,hsp,hns⟩
 ·simp[Value.cells]at hcs
  obtain⟨rfl,rfl,rfl⟩:=hcs
  exact⟨[], [],rfl,rfl,LS.nil_,fun i h=>absurd h (by simp)⟩
 ·simp[Value.cells]at hcs
  obtain⟨rfl,rfl,rfl⟩:=hcs
  have c1:Tryz.prog.cellsOf 28=1:=by kernel_rfl
  have key:∀i,∃r:Sl × List Ent,i<len->W.cell? (a.add i)=some (.slice r.1.1 r.1.2.1 r.1.2.2)/\r.2.length=r.1.2.1/\LS entE W W.heap.size r.1.1 r.2:=by
   intro i
   by_cases hil:i<len
   ·have h1:=hel i hil
    rw[c1,Nat.mul_one,List.getElem?_eq_getElem (by omega),Option.bind_eq_some_iff]at h1
    obtain⟨cs',hcs,hy⟩:=h1
    have hy':=hy
    rcases DataW.trod_slice Tryz.underlying28 hy with⟨rfl,_⟩ | ⟨a',l',c',_,_,_,_,rfl,_⟩
    ·obtain⟨q,q1,q2⟩:=open_entsE (A:=none) (len:=0) (cap:=0) (d:=(elems[i]'(by omega)).1) (p:=(elems[i]'(by omega)).2) (enc:=enc) ⟨n,hy'⟩
     exact⟨((none,0,0),q),fun _=>⟨cell_of_cells?_one hcs,q1,q2⟩⟩
    ·obtain⟨q,q1,q2⟩:=open_entsE (A:=some a') (len:=l') (cap:=c') (d:=(elems[i]'(by omega)).1) (p:=(elems[i]'(by omega)).2) (enc:=enc) ⟨n,hy'⟩
     exact⟨((some a',l',c'),q),fun _=>⟨cell_of_cells?_one hcs,q1,q2⟩⟩
   ·exact⟨((none,0,0), []),fun h=>absurd h hil⟩
  obtain⟨g,hg⟩:∃g:Nat->Sl × List Ent,∀i,i<len->W.cell? (a.add i)=some (.slice (g i).1.1 (g i).1.2.1 (g i).1.2.2)/\(g i).2.length=(g i).1.2.1/\LS entE W W.heap.size (g i).1.1 (g i).2:=⟨fun i=>Classical.choose (key i),fun i=>Classical.choose_spec (key i)⟩
  clear key
  refine⟨(List.range len).map fun i=>(g i).1,(List.range len).map fun i=>(g i).2,by simp,by simp,⟨slE.cells_length _,fun hpos=>⟨a,rfl, ?_, ?_⟩⟩, ?_⟩
  ·have:=(hg 0 (by simpa using hpos)).1
   have hb:=World.block_lt_of_cell? W _ this
   rwa [block_of_add]at hb
  ·intro j u hu
   have hjl:j<len:=by
    have:=(List.getElem?_eq_some_iff.1 hu).1
    rw[slE.cells_length]at this;simpa[slE]using this
   have h0:=slE.cells_at ((List.range len).map fun i=>(g i).1) j (by simp;omega) 0 (by decide)
   have e:j*slE.size+0=j:=by show j*1+0=j;omega
   rw[e,hu]at h0
   simp only[List.getElem_map,List.getElem_range]at h0
   exact((hg j hjl).1).trans (show some (Value.slice (g j).1.1 (g j).1.2.1 (g j).1.2.2)=some u from h0.symm)
  ·intro i h1 h2
   simp only[List.getElem_map,List.getElem_range]
   exact(hg i (by simpa using h1)).2
end
end Go.Proofs.YtjoiajmbfbjnnaaGreatDoor
namespace Go.Proofs.YtjoiajmbfbjnnaaGreatDoor
open Go.RowKit Go.Shelf
def OvEnd(rl:List Sl)(w:World)(e:Ending)(w':World):Prop:=∃b:Bool,e= .returned (.bool b)/\w'=w/\(b=false->rl.length<=8/\∀i (h:i<rl.length),rl[i].2.1<=60)
theorem over21_any(A:Option Addr)(c:Nat)(rl:List Sl)(fl:List (List Ent))(w:World)(hr:LS slE w w.heap.size A rl)(hlen:fl.length=rl.length)(hx:∀i (h1:i<rl.length) (h2:i<fl.length),fl[i].length=rl[i].2.1/\LS entE w w.heap.size rl[i].1 fl[i]):
  Calls Tryz.prog 25 #[.slice A rl.length c] w (OvEnd rl w):=by
 by_cases hn:8<rl.length
 ·have h1:(8:Int)<(rl.length:Nat):=by omega
  clear hr hx
  go_enter Tryz.func25,Tryz.ntmps25
  go_wp2
  go_ret
  exact⟨true,rfl,rfl,fun h=>by cases h⟩
 ·have h1:¬ (8:Int)<(rl.length:Nat):=by omega
  have HR:=Lib.hid hr
  have HX:=Lib.hid hx
  have HLN:=Lib.hid hlen
  clear hr hx hlen
  go_enter Tryz.func25,Tryz.ntmps25
  go_wp2
  go_loopg [3] rl.length (fun g s3 wr=>∃k:Nat,s3= .int .i64 (k:Nat)/\k<=rl.length/\rl.length-k<=g/\wr=w/\Hid (∀i (h:i<rl.length),i<k->rl[i].2.1<=60))
  case atStart=>exact⟨0,rfl,Nat.zero_le _,by omega,rfl,Lib.hid (fun i _ h=>absurd h (Nat.not_lt_zero _))⟩
  case round=>
   obtain⟨k,rfl,hkl,hkg,rfl,HK⟩:=hrel
   have hwk:IntKind.i64.wrap ((k:Int)+1)=(k:Int)+1:=IntWalk.i64_in _ (by omega)
   by_cases hk:k<rl.length
   ·obtain⟨b,off,rfl,hb,c0⟩:=HR.out.sl hk
    obtain⟨x1,x2⟩:=HX.out k hk (by rw[HLN.out];exact hk)
    have hki:(k:Int)<(rl.length:Nat):=by omega
    have HK1:Hid (rl[k].2.1<=60->∀i (h:i<rl.length),i<k+1->rl[i].2.1<=60):=Lib.hid fun h0 i h hi=>by
     rcases Nat.lt_or_ge i k with h2 | h2
     ·exact HK.out i h h2
     ·obtain rfl:i=k:=by omega
      exact h0
    have HL:=Lib.hid x2
    have hfk:k<fl.length:=by rw[HLN.out];exact hk
    generalize hfl:fl[k]=l at*
    generalize rl[k]=r at*
    obtain⟨Ar,n,cr⟩:=r
    simp only at x1 c0 HK1 HL
    subst x1
    clear x2 hfl
    by_cases w1:60<l.length
    ·have d1:(60:Int)<(l.length:Nat):=by omega
     go_wp2
     go_ret
     exact⟨true,rfl,rfl,fun h=>by cases h⟩
    ·have d1:¬ (60:Int)<(l.length:Nat):=by omega
     have HK2:=Lib.hid (HK1.out (by omega))
     clear HK1 HK
     go_wp2
     go_loopg [4] l.length (fun g s4 wx=>∃j:Nat,s4= .int .i64 (j:Nat)/\j<=l.length/\l.length-j<=g/\wx=wr)
     case atStart=>exact⟨0,rfl,Nat.zero_le _,by omega,rfl⟩
     case round=>
      obtain⟨j,rfl,hjl,hjg,rfl⟩:=hrel
      have hwj:IntKind.i64.wrap ((j:Int)+1)=(j:Int)+1:=IntWalk.i64_in _ (by omega)
      by_cases hj:j<l.length
      ·have hji:(j:Int)<(l.length:Nat):=by omega
       obtain⟨b2,o2,rfl,hb2,e0,e1⟩:=HL.out.ent hj
       generalize l[j]=x at*
       by_cases w2:60<x.1.size
       ·have d2:(60:Int)<(x.1.size:Nat):=by omega
        go_wp2
        go_ret
        exact⟨true,rfl,rfl,fun h=>by cases h⟩
       ·have d2:¬ (60:Int)<(x.1.size:Nat):=by omega
        by_cases w3:60<x.2.size
        ·have d3:(60:Int)<(x.2.size:Nat):=by omega
         go_wp2
         go_ret
         exact⟨true,rfl,rfl,fun h=>by cases h⟩
        ·have d3:¬ (60:Int)<(x.2.size:Nat):=by omega
         go_wp2
         go_roundg (l.length-(j+1))
         case measure=>omega
         case rel=>exact⟨j+1,by go_num,by omega,Nat.le_refl _,rfl⟩
      ·obtain rfl:j=l.length:=by omega
       have hji:¬ (l.length:Int)<(l.length:Nat):=by omega
       go_wp2
       go_roundg (rl.length-(k+1))
       case measure=>omega
       case rel=>exact⟨k+1,by go_num,by omega,Nat.le_refl _,rfl,HK2⟩
   ·obtain rfl:k=rl.length:=by omega
    have hki:¬ (rl.length:Int)<(rl.length:Nat):=by omega
    go_wp2
    go_ret
    exact⟨false,rfl,rfl,fun _=>⟨by omega,fun i h=>HK.out i h h⟩⟩
end Go.Proofs.YtjoiajmbfbjnnaaGreatDoor
namespace Go.Proofs.YtjoiajmbfbjnnaaGreatDoor
open Go.RowKit Go.ChangeShapes Go.WideShapes Go.Deep
def boolE:Enc Bool:=⟨fun x=> [.bool x],1,fun _=>rfl,by decide,fun x u hu=>by simp at hu;subst hu;rfl⟩
theorem open_boolsE{H:Type}{enc:TypeId × Value->H}{W:World}{A:Option Addr}{len cap:Nat}{d:DataW H}{p:List MemPlace}(h:DataW.Trod enc Tryz.prog W 0 (fun _=>true) true 51 (.slice A len cap) d p):
  ∃l:List Bool,l.length=len/\LS boolE W W.heap.size A l:=by
 obtain⟨fuel,hf⟩:=h
 rcases open_bools Tryz.underlying51 Tryz.underlying4 (by kernel_rfl) hf with⟨hcs,_⟩ | ⟨a,len',cap',f,hcs,_,hl,_,_,hi⟩
 ·simp[Value.cells]at hcs
  obtain⟨rfl,rfl,rfl⟩:=hcs
  exact⟨[],rfl,LS.nil_⟩
 ·simp[Value.cells]at hcs
  obtain⟨rfl,rfl,rfl⟩:=hcs
  refine⟨(List.range len).map f,by simp,⟨boolE.cells_length _,fun hpos=>⟨a,rfl, ?_, ?_⟩⟩⟩
  ·have:=hi 0 (by simp at hpos;omega)
   have hb:=World.block_lt_of_cell? W _ this
   rwa [block_of_add]at hb
  ·intro j u hu
   have hjl:j<len:=by
    have:=(List.getElem?_eq_some_iff.1 hu).1
    rw[boolE.cells_length]at this;simpa[boolE]using this
   have h0:=boolE.cells_at ((List.range len).map f) j (by simp;omega) 0 (by decide)
   have e:j*boolE.size+0=j:=by show j*1+0=j;omega
   rw[e,hu]at h0
   simp only[List.getElem_map,List.getElem_range]at h0
   exact(hi j (by omega)).trans (show some (Value.bool (f j))=some u from h0.symm)
end Go.Proofs.YtjoiajmbfbjnnaaGreatDoor
