/- Part of this proof. -/
import Derived.Test.YtjoiajmbfbjnnaaGreatDoorT31
set_option maxRecDepth 100000
set_option maxHeartbeats 8000000
namespace Go.Proofs.YtjoiajmbfbjnnaaGreatDoor
open Go.RowKit Go.Shelf
theorem ent_child:∀args w,(callFunc 82 args).run Tryz.prog w= .ok (.enter 82 args) w:=fun args w=>by kernel_rfl
theorem find_zero{disk:Tp.Disk}{σ:Tp.Pst}{key:ByteArray}{f:Nat}{ov:Option En.Str}(h:Tp.pFind disk σ key f 0= .ok ov):ov=none:=by
 cases f<;>simp[Tp.pFind]at h<;>exact h.symm
theorem find_view{disk:Tp.Disk}{σ:Tp.Pst}{key:ByteArray}{f:Nat}{id:Int}{ov:Option En.Str}(h:Tp.pFind disk σ key f id= .ok ov)(h0:id≠0):∃f' n,f=f'+1/\σ.view disk id=some n/\(if n.leaf then .ok (En.get n.ents key)else Tp.pFind disk σ key f' (n.kids.getD (Nd.child n.keys key) 0))=(Except.ok ov:Except Int (Option En.Str)):=by
 cases f with
 |zero=>rw[Tp.pFind,if_neg h0]at h;cases h
 |succ f=>
  rw[Tp.pFind,if_neg h0]at h
  cases hv:σ.view disk id with
  |none=>rw[hv]at h;cases h
  |some n=>rw[hv]at h;exact⟨f,n,rfl,rfl,h⟩
section
variable {S:Nat->Prop}{B t:Nat}{room:Int}{disk:Tp.Disk}{TM:Nat->Tp.Pst->World->Prop}
def getV(ov:Option En.Str):Value:=match ov with
 |some v=> .tuple #[.string v, .bool true, .int .i64 0]
 |none=> .tuple #[.string ⟨#[]⟩, .bool false, .int .i64 0]
def GtEnd(S:Nat->Prop)(B t u:Nat)(TM:Nat->Tp.Pst->World->Prop)(root:Int)(r:Nat)(σ:Tp.Pst)(ov:Option En.Str)(w:World)(e:Ending)(w':World):Prop:=e= .returned (getV ov)/\On S B t u TM root 0 r σ w'/\Fr S w w'
theorem tget_any(M:Mach S B t room disk TM)(u:Nat)(root:Int)(key:ByteArray)(r:Nat)(σ:Tp.Pst)(ov:Option En.Str)(hfind:Tp.pFind disk σ key 24 root= .ok ov)(w:World)(h:On S B t u TM root 0 (r+48) σ w):
  Calls Tryz.prog 21 #[.pointer (some ⟨u,0,none⟩), .string key] w (GtEnd S B t u TM root r σ ov w):=by
 have t1:w.cell? ⟨u,1,none⟩=some (.int .i64 root):=h.self.cell 1
 have t2:w.cell? ⟨u,2,none⟩=some (.int .i64 0):=h.self.cell 2
 have HM:=Lib.hid M
 have HON:=Lib.hid h
 have hsz:=M.size h.tm
 have hun:u<w.heap.size:=h.self.lt
 have HFD:=Lib.hid hfind
 clear hfind h M
 go_enter Tryz.func21,Tryz.ntmps21
 go_wp2
 go_loopg [7,8] 24 (fun g s7 s8 wr=>∃ (d f:Nat) (idi:Int),s7= .int .i64 idi/\s8= .int .i64 (d:Nat)/\d+f=24/\f<=g/\Hid (Tp.pFind disk σ key f idi= .ok ov)/\Hid (On S B t u TM root 0 (r+2*f) σ wr)/\Hid (Fr S w wr))
 case atStart=>exact⟨0,24,root,rfl,rfl,rfl,Nat.le_refl _,HFD,HON,Lib.hid (Fr.refl _)⟩
 case round=>
  obtain⟨d,f,idi,rfl,rfl,hdf,hfg,HFI,HONI,HFR⟩:=hrel
  have hwz:=HFR.out.size
  by_cases h0:idi=0
  ·subst h0
   have hov:=find_zero HFI.out
   have HOV:=Lib.hid hov
   have HON2:=Lib.hid (HONI.out.less HM.out (show r<=r+2*f by omega))
   clear hov
   go_wp2
   go_ret3
   exact⟨by rw[HOV.out];rfl,HON2.out,HFR.out⟩
  ·obtain⟨f,n,rfl,hv,hgo⟩:=find_view HFI.out h0
   have h0n:(idi != 0)=true:=by simpa using h0
   have hfit:=(HM.out.ht HONI.out.tm hv).1
   have HLD:=Lib.hid (load_any HM.out u root 0 (r+2*f) σ idi d n hv (by omega) wr (HONI.out.less HM.out (by omega)))
   have HFIT:=Lib.hid hfit
   have HGO:=Lib.hid hgo
   clear hv hfit hgo
   go_wp2_with fail
   refine Calls.mono HLD.out ?_
   rintro e w1 ⟨v,rfl,hnf,hon1,hf1⟩
   obtain⟨N1,c1,N2,c2,N3,c3,rfl,rn⟩:=hnf
   have hz1:=hf1.size
   have hb2:=(Below.refl w1.heap.size w1).alloc (Nat.le_refl _) (.cells #[.bool n.leaf, .slice N1 n.ents.length c1, .slice N2 n.kids.length c2, .slice N3 n.keys.length c3] 32)
   have hF2:=(HFR.out.trans hf1).trans (.of_below hb2)
   have hon2:=hon1.below HM.out hb2
   have hBn:=Blk.new w1 32 #[.bool n.leaf, .slice N1 n.ents.length c1, .slice N2 n.kids.length c2, .slice N3 n.keys.length c3]
   have hNF:=NF.below (lo:=wr.heap.size) (v:= .agg #[.bool n.leaf, .slice N1 n.ents.length c1, .slice N2 n.kids.length c2, .slice N3 n.keys.length c3]) ⟨N1,c1,N2,c2,N3,c3,rfl,rn⟩ hb2
   have HRN:=Lib.hid rn
   have HB2:=Lib.hid hb2
   have hzz:(w1.alloc (.cells #[.bool n.leaf, .slice N1 n.ents.length c1, .slice N2 n.kids.length c2, .slice N3 n.keys.length c3] 32)).heap.size=w1.heap.size+1:=by simp
   unfold nodeV
   cases hlf:n.leaf with
   |true=>
    rw[hlf]at hF2 hon2 hBn hNF hzz
    have hres:En.get n.ents key=ov:=by have:=HGO.out;rw[hlf]at this;simpa using this
    have hrt:En.right n.ents=true:=by
     obtain⟨hr,_⟩:=Tp.fits_iff.1 HFIT.out
     obtain⟨leaf,ents,kids,keys⟩:=n
     obtain rfl:leaf=true:=hlf
     exact(Nd.right_leaf.1 hr).1
    have hle:=(fits_small HFIT.out).1
    have HEG:=Lib.hid (eget_any N1 c1 n.ents key _ (LO.below HRN.out.1 (by rw[hlf]at hb2;exact hb2)).ls (by omega) hrt)
    rw[hres]at HEG
    have g0:=hBn.cell 0
    have g1:=hBn.cell 1
    have ln:=hBn.lt
    have HF2:=Lib.hid hF2
    have HON2:=Lib.hid hon2
    clear hb2 hon1 hon2 hf1 rn hBn hNF hF2 hres hrt hlf
    cases ov with
    |none=>
     go_wp2_with fail
     refine HEG.out.mono ?_
     rintro e w3 ⟨rfl,hb3⟩
     have HEND:=Lib.hid (show On S B t u TM root 0 r σ w3/\Fr S w w3 from⟨(HON2.out.below HM.out hb3).less HM.out (by omega),HF2.out.trans (.of_below hb3)⟩)
     clear hb3
     go_wp2
     go_ret3
     exact⟨rfl,HEND.out.1,HEND.out.2⟩
    |some val=>
     go_wp2_with fail
     refine HEG.out.mono ?_
     rintro e w3 ⟨rfl,hb3⟩
     have HEND:=Lib.hid (show On S B t u TM root 0 r σ w3/\Fr S w w3 from⟨(HON2.out.below HM.out hb3).less HM.out (by omega),HF2.out.trans (.of_below hb3)⟩)
     clear hb3
     go_wp2
     go_ret3
     exact⟨rfl,HEND.out.1,HEND.out.2⟩
   |false=>
    rw[hlf]at hF2 hon2 hBn hNF hzz hb2
    have hgo2:Tp.pFind disk σ key f (n.kids.getD (Nd.child n.keys key) 0)= .ok ov:=by have:=HGO.out;rw[hlf]at this;simpa using this
    have hks:Nd.KSrt n.keys/\n.keys.length+1=n.kids.length:=by
     obtain⟨hr,_⟩:=Tp.fits_iff.1 HFIT.out
     obtain⟨leaf,ents,kids,keys⟩:=n
     obtain rfl:leaf=false:=hlf
     exact⟨((Nd.keys_iff keys).1 (Nd.right_inner.1 hr).2.2.2).2,(Nd.right_inner.1 hr).2.1⟩
    have hci:=Nd.child_le n.keys key
    have hkl:n.kids.length<=100000:=(fits_nb HFIT.out).i
    obtain⟨i,hi⟩:∃i,i=Nd.child n.keys key:=⟨_,rfl⟩
    have HCH:=Lib.hid (fun W hbW=>nchild_any (.agg #[.bool false, .slice N1 n.ents.length c1, .slice N2 n.kids.length c2, .slice N3 n.keys.length c3]) n key W (NF.below hNF hbW).ns (fits_nb HFIT.out) hks.1)
    rw[<-hi]at HCH hci hgo2
    have hik:i<n.kids.length:=by have:=hks.2;omega
    have hge:n.kids.getD i 0=n.kids[i]'hik:=by simp[List.getD,hik]
    rw[hge]at hgo2
    obtain⟨bb,oo,rfl,hbb,gk⟩:=HRN.out.2.1.ls.int hik
    have gk2:=(hb2.cell (p:=⟨bb,oo+i,none⟩) hbb).trans gk
    have HGO2:=Lib.hid hgo2
    have hidx:(i:Int)<n.kids.length:=by omega
    have g0:=hBn.cell 0
    have ln:=hBn.lt
    have HBn:=Lib.hid hBn
    have HF2:=Lib.hid hF2
    have HON2:=Lib.hid hon2
    clear hb2 hon1 hon2 hf1 rn hBn hNF hF2 hgo2 hks hlf hci hi hge gk
    go_wp2_with fail
    generalize (w1.alloc (.cells #[.bool false, .slice N1 n.ents.length c1, .slice (some ⟨bb,oo,none⟩) n.kids.length c2, .slice N3 n.keys.length c3] 32))=w2 at*
    refine wp_region_flow (base:=w2.heap.size) (fun uu=>⟨#[_,_,_,_,_,_,_,uu 7,_,_,_,_,_,_,_,_,_,_,_,_,_,_,_,_,_,_,_,_,_,_,_,_,_,_,_,_,_,_,_,_,_,_,_,_,_,_,_,_,_,_,_,uu 0,uu 1,uu 2,uu 3,uu 4,uu 5,uu 6],_⟩)
     [Is.eq _ (.pointer (some ⟨w1.heap.size,2,none⟩)),Is.eq _ (.slice (some ⟨bb,oo,none⟩) n.kids.length c2),Is.eq _ (.agg #[.bool false, .slice N1 n.ents.length c1, .slice (some ⟨bb,oo,none⟩) n.kids.length c2, .slice N3 n.keys.length c3]),Is.eq _ (.string key),Is.eq _ (.int .i64 (i:Nat)),Is.eq _ (.pointer (some ⟨bb,oo+i,none⟩)),Is.eq _ (.int .i64 (n.kids[i]'hik)),Is.eq _ (.int .i64 (n.kids[i]'hik))]
     (by kernel_rfl) (by kernel_rfl) (by kernel_rfl) [] rfl (Nat.le_refl _) (by simp) (by simp) ⟨fun k=>if k=7 then .int .i64 idi else(#[u51,u52,u53,u54,u55,u56,u57]:Array Value).getD k undef,rfl⟩ ?_ ?_
    ·intro k o ho uu W hf hold hdep
     have hfb:Below w2.heap.size w2 W:=hf.low (Nat.le_refl _) (fun k a=>by simp at a)
     have hBW:=HBn.out.below hfb ln
     have cW:=hBW.cell 2
     match k,ho with
     |0,ho=>obtain rfl:=Option.some.inj ho;exact Does.val (op_fan2 rfl rfl) ⟨rfl,rfl,Fr.refl _⟩
     |1,ho=>obtain rfl:=Option.some.inj ho;exact Does.val (op_ld_ints rfl (hdep 0 rfl) cW) ⟨rfl,rfl,Fr.refl _⟩
     |2,ho=>obtain rfl:=Option.some.inj ho;exact Does.val (op_ld_row node_struct rfl rfl hBW rfl) ⟨rfl,rfl,Fr.refl _⟩
     |3,ho=>obtain rfl:=Option.some.inj ho;exact Does.val (op_mv rfl rfl) ⟨rfl,rfl,Fr.refl _⟩
     |4,ho=>
      obtain rfl:=Option.some.inj ho
      refine Does.call (op_call2 ent_child rfl (hdep 2 rfl) (hdep 3 rfl)) (Calls.mono (HCH.out W hfb) ?_)
      rintro e w' ⟨rfl,hb'⟩
      exact⟨_,rfl,rfl,rfl, .of_below hb'⟩
     |5,ho=>obtain rfl:=Option.some.inj ho;exact Does.val (op_ia_ints rfl (hdep 1 rfl) (hdep 4 rfl) hik) ⟨rfl,rfl,Fr.refl _⟩
     |6,ho=>obtain rfl:=Option.some.inj ho;exact Does.val (op_ldint rfl (hdep 5 rfl) ((hfb.cell (p:=⟨bb,oo+i,none⟩) (show bb<w2.heap.size by omega)).trans gk2)) ⟨rfl,rfl,Fr.refl _⟩
     |7,ho=>obtain rfl:=Option.some.inj ho;exact Does.val (op_as rfl (hdep 6 rfl)) ⟨rfl,rfl,Fr.refl _⟩
     |n+8,ho=>exact absurd ho (by simp)
    ·intro uu W hf hall
     have e7:uu 7= .int .i64 (n.kids[i]'hik):=hall 7 (by decide)
     simp only[e7]
     have hfb:Below w2.heap.size w2 W:=hf.low (Nat.le_refl _) (fun k a=>by simp at a)
     have HON3:=Lib.hid (HON2.out.below HM.out hfb)
     have HF3:=Lib.hid (HF2.out.trans (.of_below hfb))
     clear hall hf hfb e7
     go_wp2
     go_roundg f
     case measure=>omega
     case rel=>exact⟨d+1,f,_,rfl,by go_num,by omega,Nat.le_refl _,HGO2,HON3,HF3⟩
end
section
variable {S:Nat->Prop}{B t:Nat}{room:Int}{disk:Tp.Disk}{TM:Nat->Tp.Pst->World->Prop}
theorem put_do{gk gv:Nat}(k v:ByteArray)(hm:En.may k v=true)(hgk:¬S gk)(hgv:¬S gv):DoFn S 86 #[.pointer (some ⟨gk,0,none⟩), .pointer (some ⟨gv,0,none⟩)] (Tp.gPut k v) (fun W=>Blk W gk 9 #[.string k]/\Blk W gv 9 #[.string v]) where
 keep:=fun h hf=>⟨hf.blk h.1 hgk,hf.blk h.2 hgv⟩
 enters:=fun args w=>by kernel_rfl
 size:=fun l hl=>by have:=(Tp.gPut_op hm).size l;omega
 call:=fun w A c l hP hsv hl=>by
  have hE:=Lib.hid (eput_any A c l k v w hsv (by omega))
  have h1:=hP.1.cell 0
  have h2:=hP.2.cell 0
  have l1:=hP.1.lt
  have l2:=hP.2.lt
  have hq:putS l k v=Tp.gPut k v l:=rfl
  rw[hq]at hE
  generalize Tp.gPut k v l=o at*
  clear hP hq
  show Calls Tryz.prog 86 #[.slice A l.length c, .pointer (some ⟨gk,0,none⟩), .pointer (some ⟨gv,0,none⟩)] w _
  go_enter Tryz.func86,Tryz.ntmps86
  go_wp2_with fail
  refine hE.out.mono ?_
  rintro e w1 ⟨A',c',rfl,hs1,hb1⟩
  have H1:=Lib.hid hs1
  clear hs1
  go_wp2
  go_ret
  exact⟨A',c',rfl,H1.out,hb1⟩
theorem del_do{gk:Nat}(k:ByteArray)(hgk:¬S gk):DoFn S 131 #[.pointer (some ⟨gk,0,none⟩)] (Tp.gDel k) (fun W=>Blk W gk 9 #[.string k]) where
 keep:=fun h hf=>hf.blk h hgk
 enters:=fun args w=>by kernel_rfl
 size:=fun l hl=>by have:=(Tp.gDel_op k).size l;omega
 call:=fun w A c l hP hsv hl=>by
  have hE:=Lib.hid (edel_any A c l k w hsv (by omega))
  have h1:=Blk.cell hP 0
  have l1:=Blk.lt hP
  have hq:delS l k=Tp.gDel k l:=rfl
  rw[hq]at hE
  generalize Tp.gDel k l=o at*
  clear hP hq
  show Calls Tryz.prog 131 #[.slice A l.length c, .pointer (some ⟨gk,0,none⟩)] w _
  go_enter Tryz.func131,Tryz.ntmps131
  go_wp2_with fail
  refine hE.out.mono ?_
  rintro e w1 ⟨A',c',rfl,hs1,hb1⟩
  have H1:=Lib.hid hs1
  clear hs1
  go_wp2
  go_ret
  exact⟨A',c',rfl,H1.out,hb1⟩
theorem ctput_no(M:Mach S B t room disk TM)(u:Nat)(root:Int)(k v:ByteArray)(hm:En.may k v=false)(r:Nat)(σ:Tp.Pst)(w:World)(h:On S B t u TM root 0 r σ w):
  Calls Tryz.prog 27 #[.pointer (some ⟨u,0,none⟩), .string k, .string v] w fun e w'=>e= .returned (.int .i64 110)/\On S B t u TM root 0 r σ w'/\Below w.heap.size w w':=by
 have hb1:=(Below.refl w.heap.size w).alloc (Nat.le_refl _) (.cells #[.string k] 9)
 have hb2:=hb1.alloc hb1.size (.cells #[.string v] 9)
 have hon:=(h.below M hb1).below M (Below.alloc (Below.refl _ _) (Nat.le_refl _) (.cells #[.string v] 9))
 have hBk:=(Blk.new w 9 #[.string k]).alloc (.cells #[.string v] 9)
 have hBv:=Blk.new (w.alloc (.cells #[.string k] 9)) 9 #[.string v]
 simp only[World.size_alloc]at hBv
 have k0:((w.alloc (.cells #[.string k] 9)).alloc (.cells #[.string v] 9)).cell? ⟨w.heap.size,0,none⟩=some (.string k):=hBk.cell 0
 have kl:=hBk.lt
 have v0:((w.alloc (.cells #[.string k] 9)).alloc (.cells #[.string v] 9)).cell? ⟨w.heap.size+1,0,none⟩=some (.string v):=hBv.cell 0
 have vl:=hBv.lt
 have t2:((w.alloc (.cells #[.string k] 9)).alloc (.cells #[.string v] 9)).cell? ⟨u,2,none⟩=some (.int .i64 0):=hon.self.cell 2
 have lt2:=hon.self.lt
 have hc:=fun W=>hid_calls (check_any k v W)
 rw[chk_no hm]at hc
 have HON:=Lib.hid hon
 have HB:=Lib.hid hb2
 clear hm h hon hb1 hb2 M hBk hBv
 go_enter Tryz.func27,Tryz.ntmps27
 go_wp2_with fail
 refine(hc _).out.mono ?_
 rintro e _ ⟨rfl,rfl⟩
 go_wp2
 go_ret
 exact⟨rfl,HON.out,HB.out⟩
theorem ctput_may(M:Mach S B t room disk TM)(u:Nat)(root:Int)(k v:ByteArray)(hm:En.may k v=true)(r:Nat)(σ:Tp.Pst)(h3:(Tp.pUpdate room disk (Tp.gPut k v) k σ root).1≠ .error 3)(w:World)(h:On S B t u TM root 0 (r+48+192) σ w):
  Calls Tryz.prog 27 #[.pointer (some ⟨u,0,none⟩), .string k, .string v] w (UpEnd S B t u TM root r (Tp.pUpdate room disk (Tp.gPut k v) k σ root) w):=by
 have hsz:=M.size h.tm
 have hb1:=(Below.refl w.heap.size w).alloc (Nat.le_refl _) (.cells #[.string k] 9)
 have hb2:=hb1.alloc hb1.size (.cells #[.string v] 9)
 have hon:=(h.below M hb1).below M (Below.alloc (Below.refl _ _) (Nat.le_refl _) (.cells #[.string v] 9))
 have hBk:=(Blk.new w 9 #[.string k]).alloc (.cells #[.string v] 9)
 have hBv:=Blk.new (w.alloc (.cells #[.string k] 9)) 9 #[.string v]
 simp only[World.size_alloc]at hBv
 have HUP:=Lib.hid (update_any M u root (put_do k v hm (M.far hsz) (M.far (show B<=w.heap.size+1 by omega))) k r σ h3 _ ⟨hBk,hBv⟩ hon)
 have k0:((w.alloc (.cells #[.string k] 9)).alloc (.cells #[.string v] 9)).cell? ⟨w.heap.size,0,none⟩=some (.string k):=hBk.cell 0
 have kl:=hBk.lt
 have v0:((w.alloc (.cells #[.string k] 9)).alloc (.cells #[.string v] 9)).cell? ⟨w.heap.size+1,0,none⟩=some (.string v):=hBv.cell 0
 have vl:=hBv.lt
 have t2:((w.alloc (.cells #[.string k] 9)).alloc (.cells #[.string v] 9)).cell? ⟨u,2,none⟩=some (.int .i64 0):=hon.self.cell 2
 have lt2:=hon.self.lt
 have hc:=fun W=>hid_calls (check_any k v W)
 rw[chk_yes hm]at hc
 have HB:=Lib.hid hb2
 obtain⟨o,ho⟩:∃o,o=Tp.pUpdate room disk (Tp.gPut k v) k σ root:=⟨_,rfl⟩
 rw[<-ho]at HUP ⊢
 clear hm h hon hb1 hb2 M hBk hBv ho h3
 go_enter Tryz.func27,Tryz.ntmps27
 go_wp2_with fail
 refine(hc _).out.mono ?_
 rintro e _ ⟨rfl,rfl⟩
 go_wp2_with fail
 refine Calls.mono HUP.out ?_
 rintro e w2 ⟨hres,hf⟩
 have HF:=Lib.hid (((Fr.of_below HB.out).trans hf:Fr (fun k=>S k\/k=u) w w2))
 rcases hres with⟨p,hok,rfl,hon2⟩ | ⟨herr,rfl,hon2⟩
 ·have HON2:=Lib.hid hon2
  have HOK:=Lib.hid hok
  clear hon2 hok hf
  go_wp2
  go_ret
  exact⟨.inl ⟨p,HOK.out,rfl,HON2.out⟩,HF.out⟩
 ·have HON2:=Lib.hid hon2
  have HOK:=Lib.hid herr
  clear hon2 herr hf
  go_wp2
  go_ret
  exact⟨.inr ⟨HOK.out,rfl,HON2.out⟩,HF.out⟩
def DlEnd(S:Nat->Prop)(B t u:Nat)(TM:Nat->Tp.Pst->World->Prop)(root:Int)(r:Nat)(o:Except Int Int × Tp.Pst)(w:World)(e:Ending)(w':World):Prop:=
 ((∃p,o.1= .ok p/\e= .returned (.tuple #[.bool true, .int .i64 0])/\On S B t u TM p 0 r o.2 w')\/(o.1= .error 2/\e= .returned (.tuple #[.bool false, .int .i64 2])/\On S B t u TM root 2 r o.2 w'))/\Fr (fun k=>S k\/k=u) w w'
theorem tdel_some(M:Mach S B t room disk TM)(u:Nat)(root:Int)(k v:ByteArray)(r:Nat)(σ:Tp.Pst)(hfind:Tp.pFind disk σ k 24 root= .ok (some v))(h3:(Tp.pUpdate room disk (Tp.gDel k) k σ root).1≠ .error 3)(w:World)(h:On S B t u TM root 0 (r+48+192+48) σ w):
  Calls Tryz.prog 67 #[.pointer (some ⟨u,0,none⟩), .string k] w (DlEnd S B t u TM root r (Tp.pUpdate room disk (Tp.gDel k) k σ root) w):=by
 have hsz:=M.size h.tm
 have hb1:=(Below.refl w.heap.size w).alloc (Nat.le_refl _) (.cells #[.string k] 9)
 have hBk:=Blk.new w 9 #[.string k]
 have HG:=Lib.hid (tget_any M u root k (r+48+192) σ (some v) hfind _ (h.below M hb1))
 have HUP:=Lib.hid (fun W hP hon=>update_any M u root (del_do k (M.far hsz)) k r σ h3 W hP hon)
 have HB:=Lib.hid hb1
 have HBk:=Lib.hid hBk
 have HM:=Lib.hid M
 obtain⟨o,ho⟩:∃o,o=Tp.pUpdate room disk (Tp.gDel k) k σ root:=⟨_,rfl⟩
 rw[<-ho]at HUP ⊢
 clear h hb1 M hfind ho h3 hBk
 go_enter Tryz.func67,Tryz.ntmps67
 go_wp2_with fail
 refine Calls.mono HG.out ?_
 rintro e w2 ⟨rfl,hon,hf⟩
 have hBk2:=hf.blk HBk.out (HM.out.far hsz)
 have k0:=hBk2.cell 0
 have lk:=hBk2.lt
 have HU2:=Lib.hid (HUP.out w2 hBk2 hon)
 have HF2:=Lib.hid (((Fr.of_below HB.out).trans hf:Fr S w w2))
 unfold getV
 clear hon hf hBk2
 go_wp2_with fail
 refine Calls.mono HU2.out ?_
 rintro e w3 ⟨hres,hf3⟩
 have HF3:=Lib.hid ((HF2.out.more (S':=fun k=>S k\/k=u) (fun _=> .inl)).trans hf3)
 rcases hres with⟨p,hok,rfl,hon2⟩ | ⟨herr,rfl,hon2⟩
 ·have HON2:=Lib.hid hon2
  have HOK:=Lib.hid hok
  clear hon2 hok hf3
  go_wp2
  go_ret2
  exact⟨.inl ⟨p,HOK.out,rfl,HON2.out⟩,HF3.out⟩
 ·have HON2:=Lib.hid hon2
  have HOK:=Lib.hid herr
  have t2:=hon2.self.cell 2
  have ft2:=hon2.self.frozen 2
  have lt2:=hon2.self.lt
  clear hon2 herr hf3
  go_wp2
  go_ret2
  exact⟨.inr ⟨HOK.out,rfl,HON2.out.write HM.out (Fr.set_ (S:=fun k=>k=u) rfl _) (HON2.out.self.set_ 2 (.int .i64 2))⟩,HF3.out.trans ((Fr.set_ (S:=fun k=>k=u) rfl _).more fun _=> .inr)⟩
end
end Go.Proofs.YtjoiajmbfbjnnaaGreatDoor
