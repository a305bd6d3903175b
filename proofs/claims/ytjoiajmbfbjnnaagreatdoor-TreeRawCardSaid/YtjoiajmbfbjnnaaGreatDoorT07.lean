/- Part of this proof. -/
import Derived.Test.YtjoiajmbfbjnnaaGreatDoorT06
set_option maxRecDepth 100000
set_option maxHeartbeats 8000000
namespace Go.Proofs.YtjoiajmbfbjnnaaGreatDoor
open Go.RowKit Go.Shelf
structure NB(n:Nd.Node):Prop where
 e:n.ents.length<=100000
 i:n.kids.length<=100000
 k:n.keys.length<=100000
 es:Nd.esize n.ents<=1000000000
 ks:Nd.ksize n.keys<=1000000000
theorem nright_any(v:Value)(n:Nd.Node)(w:World)(h:NS w v n)(hb:NB n):
  Calls Tryz.prog 71 #[v] w fun e w'=>e= .returned (.bool (Nd.right n))/\Below w.heap.size w w':=by
 obtain⟨Ae,ce,Ai,ci,Ay,cy,rfl,h1,h2,h3⟩:=h
 cases hlf:n.leaf with
 |true=>exact nright_leaf Ae Ai Ay ce ci cy n hlf w h1 hb.e hb.i hb.k
 |false=>exact nright_inner Ae Ai Ay ce ci cy n hlf w h2 h3 hb.e hb.i hb.k
theorem ksize_take_le(l:List ByteArray)(k:Nat):Nd.ksize (l.take k)<=Nd.ksize l:=by
 have:=Nd.ksize_append (l.take k) (l.drop k)
 rw[List.take_append_drop]at this
 omega
theorem nsize_leaf(Ae Ai Ay:Option Addr)(ce ci cy:Nat)(n:Nd.Node)(hlf:n.leaf=true)(w:World)(he:SV entE w Ae ce n.ents)(hb:NB n):
  Calls Tryz.prog 140 #[nodeV true Ae n.ents.length ce Ai n.kids.length ci Ay n.keys.length cy] w fun e w'=>e= .returned (.int .i64 (Nd.size n:Nat))/\Below w.heap.size w w':=by
 have hq:Nd.size n=Nd.esize n.ents:=by unfold Nd.size;rw[if_pos hlf]
 rw[hq]
 have hE:=hid_calls (esize_any Ae ce n.ents (w.alloc (.cells #[.bool true, .slice Ae n.ents.length ce, .slice Ai n.kids.length ci, .slice Ay n.keys.length cy] 32)) (he.ls.up ((Below.refl _ _).alloc (Nat.le_refl _) _)) hb.e hb.es)
 unfold nodeV
 generalize n.kids.length=ni at*
 generalize n.keys.length=ny at*
 generalize Nd.esize n.ents=S at*
 clear hq he
 go_enter Tryz.func140,Tryz.ntmps140
 go_wp2_with fail
 refine hE.out.mono ?_
 rintro e w1 ⟨rfl,hb1⟩
 go_wp2
 go_ret
 exact⟨rfl,((Below.refl _ _).alloc (Nat.le_refl _) _).trans (hb1.mono (by simp))⟩
theorem nsize_inner(Ae Ai Ay:Option Addr)(ce ci cy:Nat)(n:Nd.Node)(hlf:n.leaf=false)(w:World)(hy:SV keyE w Ay cy n.keys)(hb:NB n):
  Calls Tryz.prog 140 #[nodeV false Ae n.ents.length ce Ai n.kids.length ci Ay n.keys.length cy] w fun e w'=>e= .returned (.int .i64 (Nd.size n:Nat))/\Below w.heap.size w w':=by
 have hq:Nd.size n=4+Nd.ksize n.keys:=by unfold Nd.size;rw[if_neg (by rw[hlf];simp)]
 rw[hq]
 have hbe:=(Below.refl w.heap.size w).alloc (Nat.le_refl _) (.cells #[.bool false, .slice Ae n.ents.length ce, .slice Ai n.kids.length ci, .slice Ay n.keys.length cy] 32)
 have hk:=hy.ls.below hbe
 have hl3:=hb.k
 have hT:=Lib.hid (fun k=>ksize_take_le n.keys k)
 have hks:=hb.ks
 unfold nodeV
 generalize hkl:n.keys=ks at*
 clear hkl hy hq hb
 generalize n.kids.length=ni at*
 generalize n.ents.length=ne at*
 obtain⟨R,hR⟩:∃R,R=Nd.ksize ks:=⟨_,rfl⟩
 rw[<-hR]at hks ⊢
 have HR:=Lib.hid hR
 clear hR
 go_enter Tryz.func140,Tryz.ntmps140
 go_wp2
 go_loop [3,5,14] (fun s _ i=>∃k m:Nat,k<=ks.length/\i= .int .i64 k/\s= .int .i64 m/\m<=2000000000/\Hid (m=4+Nd.ksize (ks.take k))) (fun _ _ i=>ks.length-(intOf i).toNat)
 case atStart=>exact⟨0,4,by omega,rfl,rfl,by omega,Lib.hid rfl⟩
 case round=>
  obtain⟨k,m,hkk,rfl,rfl,hm,HM⟩:=hrel
  by_cases hlt:k<ks.length
  ·obtain⟨b1,o1,rfl,hb1,g0⟩:=hk.key hlt
   have h1:=Nd.ksize_take_succ ks k hlt
   have h2:=hT.out (k+1)
   have hmm:=HM.out
   rw[h1]at h2
   have H1:=Lib.hid h1
   obtain⟨x,hx⟩:∃x,x=ks[k]:=⟨_,rfl⟩
   rw[<-hx]at g0 h2
   have h3:m+(5+x.size)<=1000000004:=by rw[HR.out]at hks;have:Nd.ksz x=5+x.size:=rfl;omega
   have HX:=Lib.hid hx
   clear h1 hx h2 hmm
   have h5:0<=(x.size:Int):=by omega
   go_wp2
   go_round
   case rel=>
    refine⟨k+1,m+(5+x.size),by omega,by go_num,by go_num,by omega,Lib.hid ?_⟩
    rw[H1.out,HM.out, <-HX.out];show _=_+(_+(5+x.size));omega
   case measure=>simp[intOf];omega
  ·obtain rfl:k=ks.length:=by omega
   go_wp2
   go_ret
   refine⟨?_,hbe⟩
   have e1:m=4+R:=by rw[HM.out,HR.out,List.take_length]
   rw[e1];rfl
theorem nsize_any(v:Value)(n:Nd.Node)(w:World)(h:NS w v n)(hb:NB n):
  Calls Tryz.prog 140 #[v] w fun e w'=>e= .returned (.int .i64 (Nd.size n:Nat))/\Below w.heap.size w w':=by
 obtain⟨Ae,ce,Ai,ci,Ay,cy,rfl,h1,h2,h3⟩:=h
 cases hlf:n.leaf with
 |true=>exact nsize_leaf Ae Ai Ay ce ci cy n hlf w h1 hb
 |false=>exact nsize_inner Ae Ai Ay ce ci cy n hlf w h3 hb
theorem nfits_any(v:Value)(n:Nd.Node)(w:World)(h:NS w v n)(hb:NB n):
  Calls Tryz.prog 72 #[v] w fun e w'=>e= .returned (.bool (Nd.fits n))/\Below w.heap.size w w':=by
 obtain⟨Ae,ce,Ai,ci,Ay,cy,rfl,h1,h2,h3⟩:=h
 have hns:NS w (nodeV n.leaf Ae n.ents.length ce Ai n.kids.length ci Ay n.keys.length cy) n:=⟨_,_,_,_,_,_,rfl,h1,h2,h3⟩
 have hbe:=(Below.refl w.heap.size w).alloc (Nat.le_refl _) (.cells #[.bool n.leaf, .slice Ae n.ents.length ce, .slice Ai n.kids.length ci, .slice Ay n.keys.length cy] 32)
 have hns1:=hns.up hbe
 have hR:=hid_calls (nright_any _ n _ hns1 hb)
 have HS:=Lib.hid (fun W (hW:NS W (nodeV n.leaf Ae n.ents.length ce Ai n.kids.length ci Ay n.keys.length cy) n)=>nsize_any _ n W hW hb)
 have hB:=Blk.new w 32 #[.bool n.leaf, .slice Ae n.ents.length ce, .slice Ai n.kids.length ci, .slice Ay n.keys.length cy]
 have hq:Nd.fits n=(Nd.right n&&decide (Nd.size n<=240)):=rfl
 rw[hq]
 have hsb:Nd.size n<=1000000004:=by unfold Nd.size;have:=hb.es;have:=hb.ks;split<;>omega
 have HNS:=Lib.hid hns1
 clear h1 h2 h3 hns hns1 hq hb
 unfold nodeV at*
 obtain⟨s,hs⟩:∃s,s=Nd.size n:=⟨_,rfl⟩
 rw[<-hs]at HS hsb ⊢
 clear hs
 cases hr:Nd.right n with
 |false=>
  rw[hr]at hR
  clear hr
  go_enter Tryz.func72,Tryz.ntmps72
  go_wp2_with fail
  refine hR.out.mono ?_
  rintro e w1 ⟨rfl,hb1⟩
  go_wp2
  go_ret
  exact⟨rfl,hbe.trans (hb1.mono hbe.size)⟩
 |true=>
  rw[hr]at hR
  clear hr
  go_enter Tryz.func72,Tryz.ntmps72
  go_wp2_with fail
  refine hR.out.mono ?_
  rintro e w1 ⟨rfl,hb1⟩
  have hB1:=hB.below hb1 hB.lt
  have c0:=hB1.cell 0
  have c1:=hB1.cell 1
  have c2:=hB1.cell 2
  have c3:=hB1.cell 3
  have hl1:=hB1.lt
  have hS1:=Lib.hid (HS.out w1 (HNS.out.up hb1))
  have hbb:=hbe.trans (hb1.mono hbe.size)
  clear hb1
  go_wp2_with fail
  refine hS1.out.mono ?_
  rintro e w2 ⟨rfl,hb2⟩
  go_wp2
  go_ret
  exact⟨by simp;omega,hbb.trans (hb2.mono hbb.size)⟩
theorem nencode_leaf(Ae Ai Ay:Option Addr)(ce ci cy:Nat)(n:Nd.Node)(hlf:n.leaf=true)(hfit:Nd.fits n=true)(w:World)(h:NS w (nodeV true Ae n.ents.length ce Ai n.kids.length ci Ay n.keys.length cy) n)(he:SV entE w Ae ce n.ents)(hb:NB n):
  Calls Tryz.prog 17 #[nodeV true Ae n.ents.length ce Ai n.kids.length ci Ay n.keys.length cy] w fun e w'=>e= .returned (.tuple #[.int .u8 1, .string (Nd.str (Nd.enc n)), .int .i64 0])/\Below w.heap.size w w':=by
 have hrt:Nd.right n=true:=by unfold Nd.fits at hfit;exact(Bool.and_eq_true _ _ ▸ hfit).1
 have her:En.right n.ents=true:=by
  unfold Nd.right at hrt;rw[if_pos hlf]at hrt;exact(Bool.and_eq_true _ _ ▸ hrt).1
 have hq:Nd.enc n=encS n.ents:=by unfold Nd.enc encS;rw[if_pos hlf,her];rfl
 rw[hq]
 have hbe:=(Below.refl w.heap.size w).alloc (Nat.le_refl _) (.cells #[.bool true, .slice Ae n.ents.length ce, .slice Ai n.kids.length ci, .slice Ay n.keys.length cy] 32)
 have hB:=Blk.new w 32 #[.bool true, .slice Ae n.ents.length ce, .slice Ai n.kids.length ci, .slice Ay n.keys.length cy]
 have hns1:=h.up hbe
 have hR:=hid_calls (nright_any _ n _ hns1 hb)
 rw[hrt]at hR
 have HF:=Lib.hid (fun W (hW:NS W (nodeV true Ae n.ents.length ce Ai n.kids.length ci Ay n.keys.length cy) n)=>nfits_any _ n W hW hb)
 rw[hfit]at HF
 have HE:=Lib.hid (fun W (hW:SV entE W Ae ce n.ents)=>eencode_any Ae ce n.ents W hW.ls hb.e)
 rw[her]at HE
 have HNS:=Lib.hid hns1
 have HSV:=Lib.hid (he.up hbe)
 clear hrt her hfit hq hns1 he h hb hlf
 unfold nodeV at*
 generalize Nd.str (encS n.ents)=S at*
 go_enter Tryz.func17,Tryz.ntmps17
 go_wp2_with fail
 refine hR.out.mono ?_
 rintro e w1 ⟨rfl,hb1⟩
 have hB1:=hB.below hb1 hB.lt
 have c0:=hB1.cell 0
 have c1:=hB1.cell 1
 have c2:=hB1.cell 2
 have c3:=hB1.cell 3
 have hl1:=hB1.lt
 have hF1:=Lib.hid (HF.out w1 (HNS.out.up hb1))
 have hbb:=hbe.trans (hb1.mono hbe.size)
 have HSV1:=Lib.hid (HSV.out.up hb1)
 clear hb1
 go_wp2_with fail
 refine hF1.out.mono ?_
 rintro e w2 ⟨rfl,hb2⟩
 have hB2:=hB1.below hb2 hB1.lt
 have d0:=hB2.cell 0
 have d1:=hB2.cell 1
 have hl2:=hB2.lt
 have hE2:=Lib.hid (HE.out w2 (HSV1.out.up hb2))
 have hbb2:=hbb.trans (hb2.mono hbb.size)
 clear c0 c1 c2 c3 hl1 hb2 hB1
 go_wp2_with fail
 refine hE2.out.mono ?_
 rintro e w3 ⟨rfl,hb3⟩
 go_wp2
 go_ret3
 exact⟨rfl,hbb2.trans (hb3.mono hbb2.size)⟩
theorem kenc_take_succ(ks:List ByteArray)(is:List Int)(hl:ks.length=is.length)(k:Nat)(hk:k<ks.length)(hk2:k<is.length):Nd.kenc (ks.take (k+1)) (is.take (k+1))=Nd.kenc (ks.take k) (is.take k)++(Nd.text ks[k]++Cp.be 4 (is[k]'hk2).toNat):=by
 unfold Nd.kenc
 have hz:k<(ks.zip is).length:=by rw[List.length_zip];omega
 have e:∀j,(ks.take j).zip (is.take j)=(ks.zip is).take j:=fun j=>(List.take_zipWith ..).symm
 rw[e,e,List.take_succ_eq_append_getElem hz,List.flatMap_append]
 simp[Nd.kenc1]
theorem putN_any(n:Int)(h0:2<=n)(h1:n<=4294967295)(w:World):Calls Tryz.prog 74 #[.int .i64 4, .int .i64 n] w fun e w'=>e= .returned (.tuple #[.string (Nd.str (Cp.be 4 n.toNat)), .int .i64 0])/\Below w.heap.size w w':=put4_fits n w (by omega) (by omega)
theorem nencode_inner(Ae Ai Ay:Option Addr)(ce ci cy:Nat)(n:Nd.Node)(hlf:n.leaf=false)(hfit:Nd.fits n=true)(w:World)(h:NS w (nodeV false Ae n.ents.length ce Ai n.kids.length ci Ay n.keys.length cy) n)(hi:SV intE w Ai ci n.kids)(hy:SV keyE w Ay cy n.keys)(hb:NB n):
  Calls Tryz.prog 17 #[nodeV false Ae n.ents.length ce Ai n.kids.length ci Ay n.keys.length cy] w fun e w'=>e= .returned (.tuple #[.int .u8 2, .string (Nd.str (Nd.enc n)), .int .i64 0])/\Below w.heap.size w w':=by
 have hrt:Nd.right n=true:=by unfold Nd.fits at hfit;exact(Bool.and_eq_true _ _ ▸ hfit).1
 have hbe:=(Below.refl w.heap.size w).alloc (Nat.le_refl _) (.cells #[.bool false, .slice Ae n.ents.length ce, .slice Ai n.kids.length ci, .slice Ay n.keys.length cy] 32)
 have hB:=Blk.new w 32 #[.bool false, .slice Ae n.ents.length ce, .slice Ai n.kids.length ci, .slice Ay n.keys.length cy]
 have hns1:=h.up hbe
 have hR:=hid_calls (nright_any _ n _ hns1 hb)
 rw[hrt]at hR
 have HF:=Lib.hid (fun W (hW:NS W (nodeV false Ae n.ents.length ce Ai n.kids.length ci Ay n.keys.length cy) n)=>nfits_any _ n W hW hb)
 rw[hfit]at HF
 have HNS:=Lib.hid hns1
 have hi1:=hi.ls.up hbe
 have hy1:=hy.ls.up hbe
 have hlk:=hb.k
 have hrt2:Nd.right ⟨false,n.ents,n.kids,n.keys⟩=true:=by
  obtain⟨leaf,ents,kids,keys⟩:=n
  simp only at hlf
  subst hlf
  exact hrt
 obtain⟨he0,hkl,hok,hkf⟩:=Nd.right_inner.1 hrt2
 have hm:=((Nd.keys_iff n.keys).1 hkf).1
 obtain⟨i0,is,hkids⟩:∃i0 is,n.kids=i0::is:=by
  cases hkk:n.kids with
  |nil=>rw[hkk]at hkl;simp at hkl
  |cons i0 is=>exact⟨i0,is,rfl⟩
 focus
  have hq:Nd.enc n=Cp.be 4 i0.toNat++Nd.kenc n.keys is:=by unfold Nd.enc;rw[if_neg (by rw[hlf];simp),hkids];rfl
  rw[hq]
  have hil:n.keys.length=is.length:=by rw[hkids]at hkl;simpa using hkl
  have HIL:=Lib.hid hil
  have HKL:=Lib.hid (show n.kids.length=is.length+1 by rw[hkids];rfl)
  have HK0:=Lib.hid (show ∀h,n.kids[0]'h=i0 by rw[hkids];intro h;rfl)
  have HKS:=Lib.hid (show ∀k h h2,n.kids[k+1]'h=is[k]'h2 by rw[hkids];intro k h h2;rfl)
  have hi0:=hok i0 (by rw[hkids];exact List.mem_cons_self)
  have HM:=Lib.hid hm
  have HOK:=Lib.hid (show ∀x∈is,2<=x/\x<=4294967295 from fun x hx=>hok x (by rw[hkids];exact List.mem_cons_of_mem _ hx))
  have htake:=Lib.hid (fun k hk hk2=>kenc_take_succ n.keys is hil k hk hk2)
  obtain⟨R,hR2⟩:∃R,R=Nd.str (Cp.be 4 i0.toNat++Nd.kenc n.keys is):=⟨_,rfl⟩
  rw[<-hR2]
  have HRR:=Lib.hid hR2
  have hP0:=Lib.hid (fun W=>putN_any i0 hi0.1 hi0.2 W)
  have hz0:(Nd.str (Cp.be 4 i0.toNat)).size<=4:=by rw[str_size,Cp.be_length];omega
  obtain⟨P0,hP⟩:∃P,P=Nd.str (Cp.be 4 i0.toNat):=⟨_,rfl⟩
  rw[<-hP]at hP0 hz0
  have HP:=Lib.hid hP
  clear hrt hrt2 hfit hq hns1 hi hy h hb hm hok hkf hR2 hP hkids hi0 he0 hlf hkl hil
  unfold nodeV at*
  go_enter Tryz.func17,Tryz.ntmps17
  go_wp2_with fail
  refine hR.out.mono ?_
  rintro e w1 ⟨rfl,hb1⟩
  have hB1:=hB.below hb1 hB.lt
  have c0:=hB1.cell 0
  have c1:=hB1.cell 1
  have c2:=hB1.cell 2
  have c3:=hB1.cell 3
  have hl1:=hB1.lt
  have hF1:=Lib.hid (HF.out w1 (HNS.out.up hb1))
  have hbb:=hbe.trans (hb1.mono hbe.size)
  have hi2:=hi1.up hb1
  have hy2:=hy1.up hb1
  clear hb1
  go_wp2_with fail
  refine hF1.out.mono ?_
  rintro e w2 ⟨rfl,hb2⟩
  have hB2:=hB1.below hb2 hB1.lt
  have d0:=hB2.cell 0
  have d2:=hB2.cell 2
  have hl2:=hB2.lt
  have hbb2:=hbb.trans (hb2.mono hbb.size)
  have hi3:=hi2.up hb2
  have hy3:=hy2.up hb2
  have hkp:0<n.kids.length:=by rw[HKL.out];omega
  have g0:∃b off,Ai=some ⟨b,off,none⟩/\b<w2.heap.size/\w2.cell? ⟨b,off,none⟩=some (.int .i64 i0):=by
   obtain⟨b,off,e,hb,hc⟩:=hi3.int (k:=0) (by rw[HKL.out];omega)
   rw[HK0.out]at hc
   exact⟨b,off,e,hb,by simpa using hc⟩
  obtain⟨bi,oi,hAi,hbi,g0⟩:=g0
  subst hAi
  clear c0 c1 c2 c3 hl1 hb2 hB1 hi2 hy2 hi1 hy1
  go_wp2_with fail
  refine(hP0.out _).mono ?_
  rintro e w3 ⟨rfl,hb3⟩
  have hB3:=hB2.below hb3 hB2.lt
  have e2:=hB3.cell 2
  have e3:=hB3.cell 3
  have hl3:=hB3.lt
  have hbb3:=hbb2.trans (hb3.mono hbb2.size)
  have hi4:=hi3.up hb3
  have hy4:=hy3.up hb3
  clear d0 d2 g0 hi3 hy3 hb3 hB2
  go_wp2
  go_loopw [7,45] (fun s i wr=>∃ (k:Nat) (S:ByteArray),k<=n.keys.length/\i= .int .i64 k/\s= .string S/\Hid (S=Nd.str (Cp.be 4 i0.toNat++Nd.kenc (n.keys.take k) (is.take k)))/\S.size<=4+100*k/\Below w3.heap.size w3 wr) (fun _ i _=>n.keys.length-(intOf i).toNat)
  case atStart=>exact⟨0,P0,by omega,rfl,rfl,Lib.hid (by rw[HP.out];simp[Nd.kenc]),by omega,Below.refl _ _⟩
  case round=>
   obtain⟨k,S,hk,rfl,rfl,HSV,hS,hbe3⟩:=hrel
   by_cases hlt:k<n.keys.length
   ·obtain⟨b2,o2,rfl,hb2,g0⟩:=(hy4.below hbe3).key hlt
    obtain⟨b3,o3,e5,hb3,g1⟩:=(hi4.below hbe3).int (k:=k+1) (by rw[HKL.out, <-HIL.out];omega)
    injection e5 with e5;injection e5 with e5 e6;subst e5 e6
    have hm:=HM.out _ (List.getElem_mem hlt)
    have hkp1:k+1<n.kids.length:=by rw[HKL.out, <-HIL.out];omega
    have hki':k<is.length:=by rw[<-HIL.out];exact hlt
    have hki:=HOK.out (is[k]'hki') (List.getElem_mem _)
    have htk:=Lib.hid (htake.out k hlt hki')
    rw[HKS.out k _ hki']at g1
    obtain⟨x,hx⟩:∃x,x=n.keys[k]:=⟨_,rfl⟩
    obtain⟨y,hy⟩:∃y,y=is[k]'hki':=⟨_,rfl⟩
    rw[<-hx]at g0 hm
    rw[<-hy]at g1 hki
    have HX:=Lib.hid hx
    have HY:=Lib.hid hy
    clear hx hy
    unfold En.may at hm
    simp only[Bool.and_eq_true,decide_eq_true_eq]at hm
    obtain⟨⟨m1,m2⟩,m3⟩:=hm
    have hSx:Hid (S++(Nd.str (Nd.text x)++Nd.str (Cp.be 4 y.toNat))=Nd.str (Cp.be 4 i0.toNat++Nd.kenc (n.keys.take (k+1)) (is.take (k+1)))):=Lib.hid (by rw[htk.out,HSV.out,str_app,str_app, <-HX.out, <-HY.out,List.append_assoc])
    have z1:(Nd.str (Nd.text x)).size<=17:=by rw[str_size,Nd.text_length];omega
    have z2:(Nd.str (Cp.be 4 y.toNat)).size<=4:=by rw[str_size,Cp.be_length];omega
    have t1:=Lib.hid (fun W=>textN_any x (by omega) W)
    have t2:=Lib.hid (fun W=>putN_any y hki.1 hki.2 W)
    generalize Nd.str (Nd.text x)=S1 at*
    generalize Nd.str (Cp.be 4 y.toNat)=S2 at*
    have hb2':b2<wr.heap.size:=by have:=hbe3.size;omega
    have hb3':bi<wr.heap.size:=by have:=hbe3.size;omega
    have hB4:=hB3.below hbe3 hB3.lt
    have hl4:=hB4.lt
    go_wp2_with fail
    refine(t1.out _).mono ?_
    rintro e w5 ⟨rfl,hb5⟩
    have hB5:=hB4.below hb5 hB4.lt
    have f2:=hB5.cell 2
    have hl5:=hB5.lt
    have g5:=(hb5.cell (p:=⟨bi,oi+(k+1),none⟩) hb3').trans g1
    have hb5':bi<w5.heap.size:=by have:=hb5.size;omega
    have hbe5:=hbe3.trans (hb5.mono hbe3.size)
    clear hb5 hB5 hB4
    go_wp2_with fail
    refine(t2.out _).mono ?_
    rintro e w6 ⟨rfl,hb6⟩
    have hbe6:=hbe5.trans (hb6.mono hbe5.size)
    clear hb6
    have hsz:(S.size:Int)+((S1.size:Int)+S2.size)<=1000000000:=by omega
    have hsz2:(S1.size:Int)+S2.size<=1000000000:=by omega
    go_wp2
    go_roundw
    case rel=>exact⟨k+1,_,by omega,by go_num,rfl,hSx,by rw[ByteArray.size_append,ByteArray.size_append];omega,hbe6⟩
    case measure=>simp[intOf];omega
   ·obtain rfl:k=n.keys.length:=by omega
    go_wp2
    go_ret3
    refine⟨?_,hbb3.trans (hbe3.mono hbb3.size)⟩
    have hs:S=R:=by rw[HSV.out,HRR.out,List.take_length,HIL.out,List.take_length]
    rw[hs];rfl
theorem ksrt_lt{l:List ByteArray}(h:Nd.KSrt l){i j:Nat}(hij:i<=j)(hj:j<l.length){k:ByteArray}(hk:En.lt k l[i]=true):En.lt k l[j]=true:=by
 by_cases e:i=j
 ·subst e;exact hk
 ·exact En.lt_trans hk (List.pairwise_iff_getElem.1 h i j (by omega) hj (by omega))
theorem ksrt_ge{l:List ByteArray}(h:Nd.KSrt l){i j:Nat}(hij:i<=j)(hj:j<l.length){k:ByteArray}(hk:En.lt k l[j]=false):En.lt k (l[i]'(by omega))=false:=by
 cases hc:En.lt k (l[i]'(by omega))with
 |false=>rfl
 |true=>rw[ksrt_lt h hij hj hc]at hk;cases hk
theorem gtr_eq(x k:ByteArray):(!Op.bytesLess x.toList k.toList&& !x.toList==k.toList)=Op.bytesLess k.toList x.toList:=by
 have e1:Op.bytesLess x.toList k.toList=En.lt x k:=rfl
 have e2:Op.bytesLess k.toList x.toList=En.lt k x:=rfl
 rw[e1,e2]
 cases h1:En.lt x k with
 |true=>rw[En.lt_not h1];rfl
 |false=>
  rcases En.ge_of h1 with e | e
  ·subst e;rw[En.lt_irrefl];simp
  ·rw[e]
   have hne:(x.toList==k.toList)=false:=by
    rw[beq_eq_false_iff_ne]
    intro hl
    have:En.lt k x=En.lt k k:=by unfold En.lt;rw[hl]
    rw[En.lt_irrefl,e]at this;cases this
   rw[hne];rfl
theorem child1_any(g1 g2:Nat)(cs:Array Value)(Ay:Option Addr)(cy:Nat)(ks:List ByteArray)(key:ByteArray)(i:Nat)(hi:i<ks.length)(w:World)(hB:Blk w g1 32 cs)(hc3:cs[3]? =some (.slice Ay ks.length cy))(hK:Blk w g2 9 #[.string key])(hl:LS keyE w w.heap.size Ay ks):
  Calls Tryz.prog 150 #[.int .i64 i, .pointer (some ⟨g1,0,none⟩), .pointer (some ⟨g2,0,none⟩)] w fun e w'=>e= .returned (.bool (En.lt key ks[i]))/\Below w.heap.size w w':=by
 obtain⟨b,off,rfl,hb,g0⟩:=hl.key hi
 have c3:=hB.cell 3
 rw[hc3]at c3
 have k0:=hK.cell 0
 have l1:=hB.lt
 have l2:=hK.lt
 generalize ks[i]=x at*
 have hq:En.lt key x=Op.bytesLess key.toList x.toList:=rfl
 rw[hq]
 clear hq
 go_enter Tryz.func150,Tryz.ntmps150
 go_wp2_with fail
 go_quiet (fail)
 go_wp2
 go_ret
 exact⟨congrArg (fun b=>Ending.returned (.bool b)) (gtr_eq x key),below_drewN (Below.refl _ _) _⟩
theorem search_child(g1 g2:Nat)(cs:Array Value)(Ay:Option Addr)(cy:Nat)(ks:List ByteArray)(key:ByteArray)(hs:Nd.KSrt ks)(hlen:ks.length<=1000000)(w:World)(hB:Blk w g1 32 cs)(hc3:cs[3]? =some (.slice Ay ks.length cy))(hK:Blk w g2 9 #[.string key])(hl:LS keyE w w.heap.size Ay ks):
  Calls Tryz.prog 149 #[.int .i64 ks.length, .func (.func 150) #[] #[.pointer (some ⟨g1,0,none⟩), .pointer (some ⟨g2,0,none⟩)]] w fun e w'=>e= .returned (.int .i64 (Nd.child ks key:Nat))/\Below w.heap.size w w':=by
 have HC:=Lib.hid (fun i hi W hB hK hl=>child1_any g1 g2 cs Ay cy ks key i hi W hB hc3 hK hl)
 have HB:=Lib.hid hB
 have HK:=Lib.hid hK
 have HL:=Lib.hid hl
 have hl1:=hB.lt
 have hl2:=hK.lt
 have HI:=Lib.hid (fun i h h1 h2=>Nd.child_iff (l:=ks) hs (key:=key) (i:=i) h h1 h2)
 have HS:=Lib.hid hs
 obtain⟨R,hR⟩:∃R,R=Nd.child ks key:=⟨_,rfl⟩
 rw[<-hR]
 have HR:=Lib.hid hR
 clear hR hB hK hl hc3 hs
 go_enter Tryz.func149,Tryz.ntmps149
 go_wp2
 go_loopg [5,6,7] ks.length (fun g s7 s8 _ wr=>∃lo hi:Nat,s7= .int .i64 lo/\s8= .int .i64 hi/\lo<=hi/\hi<=ks.length/\hi-lo<=g/\Below w.heap.size w wr/\Hid ((∀j (hj:j<ks.length),j<lo->En.lt key ks[j]=false)/\(∀j (hj:j<ks.length),hi<=j->En.lt key ks[j]=true)))
 case atStart=>exact⟨0,ks.length,rfl,rfl,Nat.zero_le _,Nat.le_refl _,by omega,Below.refl _ _,Lib.hid ⟨fun j hj h=>absurd h (by omega),fun j hj h=>absurd h (by omega)⟩⟩
 case round=>
  obtain⟨lo,hi,rfl,rfl,hlh,hin,hg,hbe,HJ⟩:=hrel
  by_cases hlt:lo<hi
  ·have hm:(lo+hi) / 2<ks.length:=by omega
   have hc:=HC.out _ hm wr (HB.out.below hbe hl1) (HK.out.below hbe hl2) (HL.out.up hbe)
   obtain⟨q,hq⟩:∃q,q=(lo+hi) / 2:=⟨_,rfl⟩
   have hqi:((lo:Int)+(hi:Int)) / 2=(q:Int):=by omega
   have hq1:lo<=q:=by omega
   have hq2:q<hi:=by omega
   have hm2:q<ks.length:=by omega
   have hsl:=Lib.hid (fun j (h1:q<=j) (hj:j<ks.length) (hk:En.lt key (ks[q]'hm2)=true)=>ksrt_lt HS.out h1 hj (k:=key) hk)
   have hsg:=Lib.hid (fun j (h1:j<=q) (hj:q<ks.length) (hk:En.lt key ks[q]=false)=>ksrt_ge HS.out h1 hj (k:=key) hk)
   have hcq:Calls Tryz.prog 150 #[.int .i64 q, .pointer (some ⟨g1,0,none⟩), .pointer (some ⟨g2,0,none⟩)] wr fun e w'=>e= .returned (.bool (En.lt key (ks[q]'hm2)))/\Below wr.heap.size wr w':=by
    subst hq;exact hc
   clear hc hq
   cases hlx:En.lt key (ks[q]'hm2)with
   |false=>
    rw[hlx]at hcq
    have HCQ:=Lib.hid hcq
    have HLX:=Lib.hid hlx
    clear hlx hcq
    go_wp2_with fail
    refine Calls.mono HCQ.out ?_
    rintro e w2 ⟨rfl,b3⟩
    go_wp2
    go_roundg (hi-(q+1))
    case measure=>omega
    case rel=>
     refine⟨q+1,hi,by go_num,rfl,by omega,hin,Nat.le_refl _,hbe.trans (b3.mono hbe.size),Lib.hid ⟨fun j hj hj2=> ?_,HJ.out.2⟩⟩
     exact hsg.out j (by omega) hm2 HLX.out
   |true=>
    rw[hlx]at hcq
    have HCQ:=Lib.hid hcq
    have HLX:=Lib.hid hlx
    clear hlx hcq
    go_wp2_with fail
    refine Calls.mono HCQ.out ?_
    rintro e w2 ⟨rfl,b3⟩
    go_wp2
    go_roundg (q-lo)
    case measure=>omega
    case rel=>
     refine⟨lo,q,rfl,by go_num,by omega,by omega,Nat.le_refl _,hbe.trans (b3.mono hbe.size),Lib.hid ⟨HJ.out.1,fun j hj hj2=> ?_⟩⟩
     exact hsl.out j hj2 hj HLX.out
  ·obtain rfl:lo=hi:=by omega
   go_wp2
   go_ret
   refine⟨?_,hbe⟩
   have e1:lo=R:=by rw[HR.out,HI.out lo hin HJ.out.1 HJ.out.2]
   rw[e1];rfl
theorem nchild_any(v:Value)(n:Nd.Node)(key:ByteArray)(w:World)(h:NS w v n)(hb:NB n)(hs:Nd.KSrt n.keys):
  Calls Tryz.prog 82 #[v, .string key] w fun e w'=>e= .returned (.int .i64 (Nd.child n.keys key:Nat))/\Below w.heap.size w w':=by
 obtain⟨Ae,ce,Ai,ci,Ay,cy,rfl,h1,h2,h3⟩:=h
 have hb1:=(Below.refl w.heap.size w).alloc (Nat.le_refl _) (.cells #[.bool n.leaf, .slice Ae n.ents.length ce, .slice Ai n.kids.length ci, .slice Ay n.keys.length cy] 32)
 have hbe:=hb1.alloc hb1.size (.cells #[.string key] 9)
 have hB:=(Blk.new w 32 #[.bool n.leaf, .slice Ae n.ents.length ce, .slice Ai n.kids.length ci, .slice Ay n.keys.length cy]).alloc (.cells #[.string key] 9)
 have hK:=Blk.new (w.alloc (.cells #[.bool n.leaf, .slice Ae n.ents.length ce, .slice Ai n.kids.length ci, .slice Ay n.keys.length cy] 32)) 9 #[.string key]
 have hS:=hid_calls (search_child w.heap.size (w.heap.size+1) _ Ay cy n.keys key hs (by have:=hb.k;omega) _ hB rfl (by simpa using hK) (h3.ls.up hbe))
 have hk:=hb.k
 generalize Nd.child n.keys key=R at*
 clear h1 h2 h3 hB hK hs hb hb1
 unfold nodeV
 go_enter Tryz.func82,Tryz.ntmps82
 go_wp2_with fail
 refine hS.out.mono ?_
 rintro e w1 ⟨rfl,hb2⟩
 go_wp2
 go_ret
 exact⟨rfl,hbe.trans (hb2.mono hbe.size)⟩
theorem nempty_any(v:Value)(n:Nd.Node)(w:World)(h:NS w v n)(hb:NB n):
  Calls Tryz.prog 206 #[v] w fun e w'=>e= .returned (.bool (decide (n.ents.length+n.kids.length=0)))/\Below w.heap.size w w':=by
 obtain⟨Ae,ce,Ai,ci,Ay,cy,rfl,h1,h2,h3⟩:=h
 have hbe:=(Below.refl w.heap.size w).alloc (Nat.le_refl _) (.cells #[.bool n.leaf, .slice Ae n.ents.length ce, .slice Ai n.kids.length ci, .slice Ay n.keys.length cy] 32)
 have b1:=hb.e
 have b2:=hb.i
 have hq:decide (n.ents.length+n.kids.length=0)=((n.ents.length:Int)+n.kids.length==0):=by
  by_cases h0:n.ents.length+n.kids.length=0
  ·rw[decide_eq_true h0];symm;rw[beq_iff_eq];omega
  ·rw[decide_eq_false h0];symm;rw[beq_eq_false_iff_ne];omega
 rw[hq]
 clear hq h1 h2 h3 hb
 unfold nodeV
 generalize n.ents.length=ne at*
 generalize n.kids.length=ni at*
 have hz:(ne:Int)+ni<=1000000:=by omega
 go_enter Tryz.func206,Tryz.ntmps206
 go_wp2
 go_ret
 exact⟨rfl,hbe⟩
structure Fr(S:Nat->Prop)(w w':World):Prop where
 os:w'.os=w.os
 tape:w'.tape=w.tape
 output:w'.output=w.output
 size:w.heap.size<=w'.heap.size
 block:∀k,k<w.heap.size->¬S k->w'.heap[k]? =w.heap[k]?
section
variable {S S':Nat->Prop}{w w' w'':World}
theorem Fr.refl(w:World):Fr S w w:=⟨rfl,rfl,rfl,Nat.le_refl _,fun _ _ _=>rfl⟩
theorem Fr.of_below(h:Below w.heap.size w w'):Fr S w w':=⟨h.os,h.tape,h.output,h.size,fun k hk _=>h.block k hk⟩
theorem Fr.trans(h:Fr S w w')(h':Fr S w' w''):Fr S w w'':=
 ⟨h'.os.trans h.os,h'.tape.trans h.tape,h'.output.trans h.output,Nat.le_trans h.size h'.size,fun k hk a=>(h'.block k (Nat.lt_of_lt_of_le hk h.size) a).trans (h.block k hk a)⟩
theorem Fr.then_(h:Fr S w w')(h':Below w'.heap.size w' w''):Fr S w w'':=h.trans (.of_below h')
theorem Fr.more(h:Fr S w w')(hS:∀k,S k->S' k):Fr S' w w':=⟨h.os,h.tape,h.output,h.size,fun k hk a=>h.block k hk (fun b=>a (hS k b))⟩
theorem Fr.blk(h:Fr S w w'){g:Nat}{ty:TypeId}{cs:Array Value}(hB:Blk w g ty cs)(hg:¬S g):Blk w' g ty cs:=(h.block g hB.lt hg).trans hB
theorem Fr.set_{g i:Nat}(hg:S g)(v:Value):Fr S w (w.setCell ⟨g,i,none⟩ v):=by
 have h:=only_setCell (World.grownBy.refl w (some g)) (p:=⟨g,i,none⟩) (.inl rfl) v
 exact⟨h.os,h.tape,h.output,h.size,fun k hk a=>h.block k hk (fun e=>by injection e with e;subst e;exact a hg)⟩
theorem Fr.low{B:Nat}(h:Fr S w w')(hB:B<=w.heap.size)(hS:∀k,S k->B<=k):Below B w w':=⟨h.os,h.tape,h.output,h.size,fun k hk=>h.block k (by omega) (fun a=>by have:=hS k a;omega)⟩
theorem LO.fr{α:Type}{E:Enc α}{ty:TypeId}{base:Nat}{v:Value}{l:List α}(h:LO E ty w base v l)(hf:Fr S w w')(hS:∀k,S k->k<base):LO E ty w' base v l:=by
 obtain⟨h1,h2⟩:=h
 refine⟨h1, ?_⟩
 rcases h2 with h2 | ⟨g,cap,cur,e1,e2,e3,e4⟩
 ·exact .inl h2
 ·exact .inr ⟨g,cap,cur,e1,e2,(hf.block g (Array.getElem?_eq_some_iff.1 e3).1 (fun a=>by have:=hS g a;omega)).trans e3,e4⟩
theorem LO.fr'{α:Type}{E:Enc α}{ty:TypeId}{base:Nat}{v:Value}{l:List α}(h:LO E ty w base v l)(hf:Fr S w w')(hS:∀k,S k->k<base):LO E ty w' base v l:=h.fr hf hS
end
def NF(lo:Nat)(w:World)(v:Value)(n:Nd.Node):Prop:=∃Ae ce Ai ci Ay cy,v=nodeV n.leaf Ae n.ents.length ce Ai n.kids.length ci Ay n.keys.length cy/\LO entE 34 w lo (.slice Ae n.ents.length ce) n.ents/\LO intE 3 w lo (.slice Ai n.kids.length ci) n.kids/\LO keyE 9 w lo (.slice Ay n.keys.length cy) n.keys
section
variable {S:Nat->Prop}{w w':World}{lo lo':Nat}{v:Value}{n:Nd.Node}
theorem NF.ns(h:NF lo w v n):NS w v n:=by
 obtain⟨Ae,ce,Ai,ci,Ay,cy,e,h1,h2,h3⟩:=h
 exact⟨Ae,ce,Ai,ci,Ay,cy,e,h1.sv,h2.sv,h3.sv⟩
theorem NF.below(h:NF lo w v n)(hb:Below w.heap.size w w'):NF lo w' v n:=by
 obtain⟨Ae,ce,Ai,ci,Ay,cy,e,h1,h2,h3⟩:=h
 exact⟨Ae,ce,Ai,ci,Ay,cy,e,h1.below hb,h2.below hb,h3.below hb⟩
theorem NF.lower(h:NF lo w v n)(hl:lo'<=lo):NF lo' w v n:=by
 obtain⟨Ae,ce,Ai,ci,Ay,cy,e,h1,h2,h3⟩:=h
 exact⟨Ae,ce,Ai,ci,Ay,cy,e,h1.lower hl,h2.lower hl,h3.lower hl⟩
theorem NF.fr(h:NF lo w v n)(hf:Fr S w w')(hS:∀k,S k->k<lo):NF lo w' v n:=by
 obtain⟨Ae,ce,Ai,ci,Ay,cy,e,h1,h2,h3⟩:=h
 exact⟨Ae,ce,Ai,ci,Ay,cy,e,h1.fr hf hS,h2.fr hf hS,h3.fr hf hS⟩
end
def prtV(Ai:Option Addr)(ni ci:Nat)(Ay:Option Addr)(ny cy:Nat):Value:= .agg #[.slice Ai ni ci, .slice Ay ny cy]
def PF(lo:Nat)(w:World)(v:Value)(p:Tp.Part):Prop:=∃Ai ci Ay cy,v=prtV Ai p.1.length ci Ay p.2.length cy/\LO intE 3 w lo (.slice Ai p.1.length ci) p.1/\LO keyE 9 w lo (.slice Ay p.2.length cy) p.2
section
variable {S:Nat->Prop}{w w':World}{lo lo':Nat}{v:Value}{p:Tp.Part}
theorem PF.below(h:PF lo w v p)(hb:Below w.heap.size w w'):PF lo w' v p:=by
 obtain⟨Ai,ci,Ay,cy,e,h2,h3⟩:=h
 exact⟨Ai,ci,Ay,cy,e,h2.below hb,h3.below hb⟩
theorem PF.fr(h:PF lo w v p)(hf:Fr S w w')(hS:∀k,S k->k<lo):PF lo w' v p:=by
 obtain⟨Ai,ci,Ay,cy,e,h2,h3⟩:=h
 exact⟨Ai,ci,Ay,cy,e,h2.fr hf hS,h3.fr hf hS⟩
end
section
variable {F:Fence}{n:Nat}{P:Program}{ops:Array Oper}{Q:Exit->Act->World->Prop}{md:Region.Mode}
theorem ready_mem{L:Array Bool}{i:Nat}(h:i∈Region.ready md ops L):i<ops.size/\L.getD i true=false/\∀o,ops[i]? =some o->∀e∈o.after.toList,Region.binds md e=true->L.getD e.on false=true:=by
 unfold Region.ready at h
 rw[List.mem_filter]at h
 obtain⟨h1,h2⟩:=h
 rw[Bool.and_eq_true]at h2
 refine⟨List.mem_range.1 h1,by simpa using h2.1,fun o ho e he hb=> ?_⟩
 have h3:=h2.2
 rw[ho]at h3
 simp only[Option.map_some,Option.getD_some]at h3
 rw[Array.all_eq_true']at h3
 have h4:=h3 e (Array.mem_toList_iff.1 he)
 rw[hb]at h4
 simpa using h4
theorem ready_all{L:Array Bool}(h:Region.ready md ops L= [])(hs:L.size=ops.size)(hlow:((List.range ops.size).all fun i=>((ops[i]?).map fun o=>o.after.toList.all fun e=> !Region.binds md e||decide (e.on<i)).getD true)=true):∀i,i<ops.size->L.getD i false=true:=by
 intro i
 induction i using Nat.strongRecOn with
 |_ i ih=>
  intro hi
  cases hb:L.getD i false with
  |true=>rfl
  |false=>
   have hL:i<L.size:=by omega
   have hb':L[i]=false:=by simpa[Array.getD,hL]using hb
   have hmem:i∈Region.ready md ops L:=by
    unfold Region.ready
    rw[List.mem_filter]
    refine⟨List.mem_range.2 hi, ?_⟩
    rw[Bool.and_eq_true]
    refine⟨by simp[Array.getD,hL,hb'], ?_⟩
    have hl:=List.all_eq_true.1 hlow i (List.mem_range.2 hi)
    rw[Array.getElem?_eq_getElem hi]at hl ⊢
    simp only[Option.map_some,Option.getD_some]at hl ⊢
    rw[List.all_eq_true]at hl
    rw[Array.all_eq_true']
    intro e he
    have h1:=hl e (Array.mem_toList_iff.2 he)
    rw[Bool.or_eq_true]at h1 ⊢
    rcases h1 with h1 | h1
    ·exact .inl h1
    ·have h1:=of_decide_eq_true h1
     exact .inr (ih e.on h1 (by omega))
   rw[h]at hmem
   cases hmem
end
theorem set_at{L:Array Bool}{i:Nat}(h:i<L.size):(L.setIfInBounds i true).getD i false=true:=by simp[Array.getD,h]
theorem set_ne{L:Array Bool}{i j:Nat}(h:i≠j):(L.setIfInBounds i true).getD j false=L.getD j false:=by
 simp[Array.getD]
 split<;>simp_all
structure Is(base:Nat) where
 own:Option Nat
 p:Value->World->Prop
 up:∀v W W' S,p v W->Fr S W W'->(∀k,S k->k<base/\own≠some k)->p v W'
def Is.any(base:Nat):Is base:=⟨none,fun _ _=>True,fun _ _ _ _ _ _ _=>trivial⟩
def Is.eq(base:Nat)(v:Value):Is base:=⟨none,fun x _=>x=v,fun _ _ _ _ h _ _=>h⟩
def Is.blk(base:Nat)(ty:TypeId)(n:Nat)(cs:Array Value):Is base:=⟨none,fun v W=>∃b,base<=b/\v= .slice (some ⟨b,0,none⟩) n n/\Blk W b ty cs,fun _ _ _ _ ⟨b,h0,h1,h2⟩ hf hS=>⟨b,h0,h1,hf.blk h2 (fun a=>by have:=hS b a;omega)⟩⟩
def Is.row(base:Nat){α:Type}(E:Enc α)(ty:TypeId)(l:List α):Is base:=⟨none,fun v W=>LO E ty W base v l/\∃A c,v= .slice A l.length c,fun _ _ _ _ h hf hS=>⟨LO.fr' h.1 hf (fun k a=>(hS k a).1),h.2⟩⟩
def Is.node(base:Nat)(n:Nd.Node):Is base:=⟨none,fun v W=>NF base W v n,fun _ _ _ _ h hf hS=>h.fr hf (fun k a=>(hS k a).1)⟩
def Is.put(base g:Nat)(n:Nd.Node):Is base:=⟨some g,fun _ W=>∃cs,NF base W (.agg cs) n/\Blk W g 32 cs,fun _ _ _ _ ⟨cs,h1,h2⟩ hf hS=>⟨cs,h1.fr hf (fun k a=>(hS k a).1),hf.blk h2 (fun a=>(hS g a).2 rfl)⟩⟩
def Does(o:Oper)(a:Act)(W:World)(R:Value->World->Prop):Prop:=
 (∃v w',(execOp a.eval o).run Tryz.prog W= .ok (.value v) w'/\R v w')\/(∃w',(execOp a.eval o).run Tryz.prog W= .ok .skip w'/\R undef w')\/(∃f args,(execOp a.eval o).run Tryz.prog W= .ok (.enter f args) W/\Calls Tryz.prog f args W fun e w'=>∃v,e= .returned v/\R v w')
theorem Does.wp{o:Oper}{a:Act}{W:World}{R:Value->World->Prop}{K:Act->World->Prop}{Q:Exit->Act->World->Prop}(h:Does o a W R)(hK:∀v w',R v w'->K (a.put o.dst v) w'):o.wp Tryz.prog a W K Q:=by
 unfold Oper.wp
 rcases h with⟨v,w',hr,h⟩ | ⟨w',hr,h⟩ | ⟨f,args,hr,h⟩
 ·rw[hr,Oper.upon_value];exact hK v w' h
 ·rw[hr,Oper.upon_skip];exact hK _ w' h
 ·rw[hr,Oper.upon_enter]
  refine Calls.mono h ?_
  rintro e w' ⟨v,rfl,h⟩
  exact hK v w' h
def depOn(ops:Array Oper)(i j:Nat):Bool:=((ops[i]?).map fun o=>o.after.toList.any fun e=>Region.binds .any e&&e.on==j).getD false
abbrev isAt {base:Nat} (Vs:List (Is base)) (i:Nat):Is base:=Vs.getD i (Is.any base)
def OwnS{base:Nat}(Vs:List (Is base))(k:Nat):Prop:=∃i,(isAt Vs i).own=some k
theorem ownS_mem{base:Nat}{Vs:List (Is base)}{k:Nat}(h:OwnS Vs k):k∈Vs.filterMap (·.own):=by
 obtain⟨i,h⟩:=h
 rw[List.mem_filterMap]
 unfold isAt at h
 rw[List.getD_eq_getElem?_getD]at h
 cases hg:Vs[i]? with
 |none=>rw[hg]at h;simp[Is.any]at h
 |some x=>rw[hg]at h;exact⟨x,List.mem_of_getElem? hg,h⟩
theorem own_inj{base:Nat} :∀ {Vs:List (Is base)},(Vs.filterMap (·.own)).Nodup->∀ {i j k},(isAt Vs i).own=some k->(isAt Vs j).own=some k->i=j
 | [],_,i,j,k,h,_=>by simp[isAt,Is.any]at h
 |V::Vs,hn,i,j,k,h1,h2=>by
  have hmem:∀ {i:Nat},(isAt Vs i).own=some k->k∈Vs.filterMap (·.own):=fun {i} h=>by
   rw[List.mem_filterMap]
   unfold isAt at h
   rw[List.getD_eq_getElem?_getD]at h
   cases hg:Vs[i]? with
   |none=>rw[hg]at h;simp[Is.any]at h
   |some x=>rw[hg]at h;exact⟨x,List.mem_of_getElem? hg,h⟩
  cases i with
  |zero=>
   cases j with
   |zero=>rfl
   |succ j=>
    have h1':V.own=some k:=h1
    have h2':(isAt Vs j).own=some k:=h2
    rw[List.filterMap_cons_some h1',List.nodup_cons]at hn
    exact absurd (hmem h2') hn.1
  |succ i=>
   have h1':(isAt Vs i).own=some k:=h1
   cases j with
   |zero=>
    have h2':V.own=some k:=h2
    rw[List.filterMap_cons_some h2',List.nodup_cons]at hn
    exact absurd (hmem h1') hn.1
   |succ j=>
    have h2':(isAt Vs j).own=some k:=h2
    have hn':(Vs.filterMap (·.own)).Nodup:=by
     cases hV:V.own with
     |none=>rwa [List.filterMap_cons_none hV]at hn
     |some x=>rw[List.filterMap_cons_some hV,List.nodup_cons]at hn;exact hn.2
    rw[own_inj hn' h1' h2']
structure FlowInv{base:Nat}(mk:(Nat->Value)->Act)(Vs:List (Is base))(ops:Array Oper)(w:World)(L:Array Bool)(a:Act)(W:World):Prop where
 sz:L.size=ops.size
 fr:Fr (OwnS Vs) w W
 old:∀i k,(isAt Vs i).own=some k->L.getD i false=false->W.heap[k]? =w.heap[k]?
 closed:∀j i,L.getD j false=true->depOn ops j i=true->L.getD i false=true
 act:∃u,a=mk u/\∀i,i<ops.size->L.getD i false=true->(isAt Vs i).p (u i) W
abbrev Step1 {base:Nat} (mk:(Nat->Value)->Act) (Vs:List (Is base)) (i:Nat) (o:Oper) (u:Nat->Value) (W:World):Prop:=
 Does o (mk u) W (fun v W'=>(mk u).put o.dst v=mk (fun j=>if j=i then v else u j)/\(isAt Vs i).p v W'/\Fr (fun k=>(isAt Vs i).own=some k) W W')
section
variable {base:Nat}{Q:Exit->Act->World->Prop}{ops:Array Oper}{w:World}
theorem wpAny_flow{md:Region.Mode}(mk:(Nat->Value)->Act)(Vs:List (Is base))(hmd:md= .any)
  (hlow:((List.range ops.size).all fun i=>((ops[i]?).map fun o=>o.after.toList.all fun e=> !Region.binds .any e||decide (e.on<i)).getD true)=true)
  (hgd:ops.toList.all (fun o=>o.guard.isNone)=true) (hbw:base<=w.heap.size) (hown:∀k,OwnS Vs k->k<base) (hnd:(Vs.filterMap (·.own)).Nodup)
  (hstep:∀i o,ops[i]? =some o->∀u W,Fr (OwnS Vs) w W->(∀j k,(isAt Vs j).own=some k->(j=i\/depOn ops j i=true)->W.heap[k]? =w.heap[k]?)->(∀j,depOn ops i j=true->(isAt Vs j).p (u j) W)->Step1 mk Vs i o u W)
  (hend:∀u W,Fr (OwnS Vs) w W->(∀i,i<ops.size->(isAt Vs i).p (u i) W)->Q .normal (mk u) W):
  ∀fuel L a W,FlowInv mk Vs ops w L a W->L.toList.count false<=fuel->wpAny Tryz.prog md ops Q fuel L a W:=by
 subst hmd
 have hdone:∀L a W,FlowInv mk Vs ops w L a W->Region.ready .any ops L= []->Q .normal a W:=by
  rintro L a W ⟨hs,hb,_,_,u,rfl,hu⟩ hr
  have hall:=ready_all hr hs hlow
  exact hend u W hb (fun i hi=>hu i hi (hall i hi))
 intro fuel
 induction fuel with
 |zero=>
  intro L a W hI hc
  have hr:Region.ready .any ops L= []:=by
   cases hr:Region.ready .any ops L with
   |nil=>rfl
   |cons i r=>
    have hm:=ready_mem (md:= .any) (ops:=ops) (L:=L) (i:=i) (by rw[hr];exact List.mem_cons_self ..)
    have hL:i<L.size:=by have:=hI.sz;omega
    have h2:=hm.2.1
    have h3:L[i]=false:=by simpa[Array.getD,hL]using h2
    have h4:L.toList.count false=0:=by omega
    rw[List.count_eq_zero]at h4
    exact absurd (by rw[<-h3];exact Array.mem_toList_iff.2 (Array.getElem_mem hL)) h4
  exact⟨hr,hdone L a W hI hr⟩
 |succ fuel ih=>
  intro L a W hI hc
  refine⟨hdone L a W hI,fun i hi=> ?_⟩
  have hm:=ready_mem hi
  have hL:i<L.size:=by have:=hI.sz;omega
  have h3:L[i]=false:=by simpa[Array.getD,hL]using hm.2.1
  have hcnt:(L.setIfInBounds i true).toList.count false<=fuel:=by
   have h5:(L.setIfInBounds i true).toList=L.toList.set i true:=by simp
   rw[h5,List.count_set (by simpa using hL)]
   have h6:L.toList[i]'(by simpa using hL)=false:=by simpa using h3
   rw[h6]
   have h7:0<L.toList.count false:=List.count_pos_iff.2 (by rw[<-h3];exact Array.mem_toList_iff.2 (Array.getElem_mem hL))
   simp
   simp at hc h7
   omega
  obtain⟨hs,hb,hol,hcl,u,rfl,hu⟩:=hI
  obtain⟨o,ho⟩:∃o,ops[i]? =some o:=⟨_,Array.getElem?_eq_getElem hm.1⟩
  have hg:o.guard=none:=by
   have:=List.all_eq_true.1 hgd o (Array.mem_toList_iff.2 (Array.mem_of_getElem? ho))
   simpa using this
  have hdep:∀j,depOn ops i j=true->(isAt Vs j).p (u j) W:=by
   intro j hj
   unfold depOn at hj
   rw[ho]at hj
   simp only[Option.map_some,Option.getD_some,List.any_eq_true,Bool.and_eq_true,beq_iff_eq]at hj
   obtain⟨e,he,hbd,rfl⟩:=hj
   have h1:=hm.2.2 o ho e he hbd
   refine hu e.on ?_ h1
   have h2:e.on<L.size:=by
    by_cases h:e.on<L.size
    ·exact h
    ·simp[Array.getD,h]at h1
   omega
  have hd:=hstep i o ho u W hb (fun j k hk hj=>hol j k hk (by
   rcases hj with rfl | hj
   ·simpa[Array.getD,hL]using h3
   ·cases hl:L.getD j false with
    |false=>rfl
    |true=>
     have:=hcl j i hl hj
     simp[Array.getD,hL,h3]at this)) hdep
  unfold wpOp
  rw[ho]
  simp only
  rw[if_pos (by simp[Region.wanted,hg])]
  refine .inl (hd.wp ?_)
  rintro v W' ⟨e1,hv,hb'⟩
  rw[e1]
  refine ih _ _ _ ⟨by simp[hs],hb.trans (hb'.more fun k hk=>⟨i,hk⟩), ?_, ?_,_,rfl, ?_⟩ hcnt
  ·intro j k hk hlj
   have hji:j≠i:=fun e=>by subst e;rw[set_at hL]at hlj;cases hlj
   rw[set_ne (Ne.symm hji)]at hlj
   have h1:=hown k ⟨j,hk⟩
   have h2:=hb.size
   rw[hb'.block k (by omega) (fun hk2=>hji (own_inj hnd hk hk2))]
   exact hol j k hk hlj
  ·intro j i' hj hd2
   by_cases hji:i=j
   ·subst hji
    unfold depOn at hd2
    rw[ho]at hd2
    simp only[Option.map_some,Option.getD_some,List.any_eq_true,Bool.and_eq_true,beq_iff_eq]at hd2
    obtain⟨e,he,hbd,rfl⟩:=hd2
    have h1:=hm.2.2 o ho e he hbd
    by_cases h2:i=e.on
    ·rw[<-h2];exact set_at hL
    ·rw[set_ne h2]
     by_cases h:e.on<L.size
     ·simpa[Array.getD,h]using h1
     ·simp[Array.getD,h]at h1
   ·rw[set_ne hji]at hj
    have h1:=hcl j i' hj hd2
    by_cases h2:i=i'
    ·rw[<-h2];exact set_at hL
    ·rw[set_ne h2];exact h1
  intro j hj hlj
  by_cases hji:j=i
  ·subst hji;rw[if_pos rfl];exact hv
  ·rw[if_neg hji]
   rw[set_ne (Ne.symm hji)]at hlj
   exact(isAt Vs j).up _ _ _ _ (hu j hj hlj) hb' (fun k hk=>⟨hown k ⟨i,hk⟩,fun hk2=>hji (own_inj hnd hk2 hk)⟩)
theorem wp_region_flow2{id:Nat}{a:Act}(mk:(Nat->Value)->Act)(Vs:List (Is base))
  (hm:Tryz.prog.follows .mixedOrders=true)
  (hlow:((List.range ops.size).all fun i=>((ops[i]?).map fun o=>o.after.toList.all fun e=> !Region.binds .any e||decide (e.on<i)).getD true)=true)
  (hgd:ops.toList.all (fun o=>o.guard.isNone)=true) (L:List Nat) (hL:Vs.filterMap (·.own)=L) (hbw:base<=w.heap.size) (hown:∀k∈L,k<base) (hnd:L.Nodup)
  (ha:∃u,a=mk u)
  (hstep:∀i o,ops[i]? =some o->∀u W,Fr (fun k=>k∈L) w W->(∀j k,(isAt Vs j).own=some k->(j=i\/depOn ops j i=true)->W.heap[k]? =w.heap[k]?)->(∀j,depOn ops i j=true->(isAt Vs j).p (u j) W)->Step1 mk Vs i o u W)
  (hend:∀u W,Fr (fun k=>k∈L) w W->(∀i,i<ops.size->(isAt Vs i).p (u i) W)->Q .normal (mk u) W):(Code.region id ops true).wp Tryz.prog Q a w:=by
 subst hL
 refine wp_region_any hm (wpAny_flow (w:=w) mk Vs rfl hlow hgd hbw (fun k hk=>hown k (ownS_mem hk)) hnd (fun i o ho u W hf=>hstep i o ho u W (hf.more fun _=>ownS_mem)) (fun u W hf=>hend u W (hf.more fun _=>ownS_mem)) _ _ _ _ ⟨by simp, .of_below (Below.refl w.heap.size w).drew,fun _ _ _ _=>rfl, ?_, ?_⟩ ?_)
 ·intro j i hj
  by_cases h:j<ops.size<;>simp[Array.getD,h]at hj
 ·obtain⟨u,rfl⟩:=ha
  exact⟨u,rfl,fun i hi h=>by simp[Array.getD,hi]at h⟩
 ·simp
theorem wp_region_flow{id:Nat}{a:Act}(mk:(Nat->Value)->Act)(Vs:List (Is base))
  (hm:Tryz.prog.follows .mixedOrders=true)
  (hlow:((List.range ops.size).all fun i=>((ops[i]?).map fun o=>o.after.toList.all fun e=> !Region.binds .any e||decide (e.on<i)).getD true)=true)
  (hgd:ops.toList.all (fun o=>o.guard.isNone)=true) (L:List Nat) (hL:Vs.filterMap (·.own)=L) (hbw:base<=w.heap.size) (hown:∀k∈L,k<base) (hnd:L.Nodup)
  (ha:∃u,a=mk u)
  (hstep:∀i o,ops[i]? =some o->∀u W,Fr (fun k=>k∈L) w W->(∀k,(isAt Vs i).own=some k->W.heap[k]? =w.heap[k]?)->(∀j,depOn ops i j=true->(isAt Vs j).p (u j) W)->Step1 mk Vs i o u W)
  (hend:∀u W,Fr (fun k=>k∈L) w W->(∀i,i<ops.size->(isAt Vs i).p (u i) W)->Q .normal (mk u) W):(Code.region id ops true).wp Tryz.prog Q a w:=
 wp_region_flow2 mk Vs hm hlow hgd L hL hbw hown hnd ha (fun i o ho u W hf hold hdep=>hstep i o ho u W hf (fun k hk=>hold i k hk (.inl rfl)) hdep) hend
structure LastInv{base:Nat}(mk:(Nat->Value)->Act)(Vs:List (Is base))(ops:Array Oper)(n:Nat)(w:World)(L:Array Bool)(a:Act)(W:World):Prop where
 sz:L.size=ops.size
 fr:Fr (OwnS Vs) w W
 old:∀i k,(isAt Vs i).own=some k->L.getD i false=false->W.heap[k]? =w.heap[k]?
 lst:L.getD n false=false
 act:∃u,a=mk u/\∀i,i<n->L.getD i false=true->(isAt Vs i).p (u i) W
theorem wpAny_last{md:Region.Mode}{n:Nat}(mk:(Nat->Value)->Act)(Vs:List (Is base))(hmd:md= .any)(hn:ops.size=n+1)
  (hlow:((List.range ops.size).all fun i=>((ops[i]?).map fun o=>o.after.toList.all fun e=> !Region.binds .any e||decide (e.on<i)).getD true)=true)
  (hlast:((List.range n).all fun i=>depOn ops n i)=true)
  (hgd:ops.toList.all (fun o=>o.guard.isNone)=true) (hbw:base<=w.heap.size) (hown:∀k,OwnS Vs k->k<base) (hnd:(Vs.filterMap (·.own)).Nodup)
  (hstep:∀i o,i<n->ops[i]? =some o->∀u W,Fr (OwnS Vs) w W->(∀k,(isAt Vs i).own=some k->W.heap[k]? =w.heap[k]?)->(∀j,depOn ops i j=true->(isAt Vs j).p (u j) W)->Step1 mk Vs i o u W)
  (hend:∀o,ops[n]? =some o->∀u W,Fr (OwnS Vs) w W->(∀i,i<n->(isAt Vs i).p (u i) W)->Does o (mk u) W (fun v W'=>Q .normal ((mk u).put o.dst v) W')):
  ∀fuel L a W,LastInv mk Vs ops n w L a W->L.toList.count false<=fuel->wpAny Tryz.prog md ops Q fuel L a W:=by
 subst hmd
 have hnr:∀ (L:Array Bool),L.size=ops.size->Region.ready .any ops L= []->L.getD n false=true:=fun L hs hr=>ready_all hr hs hlow n (by omega)
 have hall:∀ (L:Array Bool),(∀i,i<ops.size->L.getD i false=true)->L.size=ops.size->Region.ready .any ops L= []:=fun L hL hs=>by
  cases hr:Region.ready .any ops L with
  |nil=>rfl
  |cons i r=>
   have hm:=ready_mem (md:= .any) (ops:=ops) (L:=L) (i:=i) (by rw[hr];exact List.mem_cons_self ..)
   have h1:=hL i hm.1
   have h2:=hm.2.1
   have h3:i<L.size:=by have:=hm.1;omega
   simp[Array.getD,h3]at h1 h2
   rw[h1]at h2;cases h2
 intro fuel
 induction fuel with
 |zero=>
  intro L a W hI hc
  exfalso
  have hL:n<L.size:=by have:=hI.sz;omega
  have h4:L.toList.count false=0:=by omega
  rw[List.count_eq_zero]at h4
  have h3:L[n]=false:=by simpa[Array.getD,hL]using hI.lst
  exact h4 (by rw[<-h3];exact Array.mem_toList_iff.2 (Array.getElem_mem hL))
 |succ fuel ih=>
  intro L a W hI hc
  refine⟨fun hr=>(by have:=hnr L hI.sz hr;rw[hI.lst]at this;cases this),fun i hi=> ?_⟩
  have hm:=ready_mem hi
  have hL:i<L.size:=by have:=hI.sz;omega
  have h3:L[i]=false:=by simpa[Array.getD,hL]using hm.2.1
  have hcnt:(L.setIfInBounds i true).toList.count false<=fuel:=by
   have h5:(L.setIfInBounds i true).toList=L.toList.set i true:=by simp
   rw[h5,List.count_set (by simpa using hL)]
   have h6:L.toList[i]'(by simpa using hL)=false:=by simpa using h3
   rw[h6]
   have h7:0<L.toList.count false:=List.count_pos_iff.2 (by rw[<-h3];exact Array.mem_toList_iff.2 (Array.getElem_mem hL))
   simp
   simp at hc h7
   omega
  obtain⟨hs,hb,hol,hls,u,rfl,hu⟩:=hI
  obtain⟨o,ho⟩:∃o,ops[i]? =some o:=⟨_,Array.getElem?_eq_getElem hm.1⟩
  have hg:o.guard=none:=by
   have:=List.all_eq_true.1 hgd o (Array.mem_toList_iff.2 (Array.mem_of_getElem? ho))
   simpa using this
  have hdone:∀j,depOn ops i j=true->L.getD j false=true:=by
   intro j hj
   unfold depOn at hj
   rw[ho]at hj
   simp only[Option.map_some,Option.getD_some,List.any_eq_true,Bool.and_eq_true,beq_iff_eq]at hj
   obtain⟨e,he,hbd,rfl⟩:=hj
   exact hm.2.2 o ho e he hbd
  have hlt:∀j,depOn ops i j=true->j<i:=by
   intro j hj
   unfold depOn at hj
   rw[ho]at hj
   simp only[Option.map_some,Option.getD_some,List.any_eq_true,Bool.and_eq_true,beq_iff_eq]at hj
   obtain⟨e,he,hbd,rfl⟩:=hj
   have h1:=List.all_eq_true.1 hlow i (List.mem_range.2 hm.1)
   rw[ho]at h1
   simp only[Option.map_some,Option.getD_some,List.all_eq_true]at h1
   have h2:=h1 e he
   rw[hbd]at h2
   simpa using h2
  unfold wpOp
  rw[ho]
  simp only
  rw[if_pos (by simp[Region.wanted,hg])]
  by_cases hin:i=n
  ·subst hin
   have hd:=hend o ho u W hb (fun j hj=>hu j hj (hdone j (List.all_eq_true.1 hlast j (List.mem_range.2 hj))))
   refine .inl (hd.wp ?_)
   intro v W' hQ
   have hallt:∀j,j<ops.size->(L.setIfInBounds i true).getD j false=true:=fun j hj=>by
    by_cases h:i=j
    ·subst h;exact set_at hL
    ·rw[set_ne h];exact hdone j (List.all_eq_true.1 hlast j (List.mem_range.2 (by omega)))
   have hr:=hall (L.setIfInBounds i true) hallt (by simp[hs])
   cases fuel with
   |zero=>exact⟨hr,hQ⟩
   |succ fuel=>exact⟨fun _=>hQ,fun j hj=>by rw[hr]at hj;cases hj⟩
  ·have hi2:i<n:=by have:=hm.1;omega
   have hd:=hstep i o hi2 ho u W hb (fun k hk=>hol i k hk (by simpa[Array.getD,hL]using h3)) (fun j hj=>hu j (by have:=hlt j hj;omega) (hdone j hj))
   refine .inl (hd.wp ?_)
   rintro v W' ⟨e1,hv,hb'⟩
   rw[e1]
   refine ih _ _ _ ⟨by simp[hs],hb.trans (hb'.more fun k hk=>⟨i,hk⟩), ?_,by rw[set_ne hin];exact hls,_,rfl, ?_⟩ hcnt
   ·intro j k hk hlj
    have hji:j≠i:=fun e=>by subst e;rw[set_at hL]at hlj;cases hlj
    rw[set_ne (Ne.symm hji)]at hlj
    have h1:=hown k ⟨j,hk⟩
    have h2:=hb.size
    rw[hb'.block k (by omega) (fun hk2=>hji (own_inj hnd hk hk2))]
    exact hol j k hk hlj
   ·intro j hj hlj
    by_cases hji:j=i
    ·subst hji;rw[if_pos rfl];exact hv
    ·rw[if_neg hji]
     rw[set_ne (Ne.symm hji)]at hlj
     exact(isAt Vs j).up _ _ _ _ (hu j hj hlj) hb' (fun k hk=>⟨hown k ⟨i,hk⟩,fun hk2=>hji (own_inj hnd hk2 hk)⟩)
theorem wp_region_last{id:Nat}{a:Act}(n:Nat)(mk:(Nat->Value)->Act)(Vs:List (Is base))
  (hm:Tryz.prog.follows .mixedOrders=true) (hn:ops.size=n+1)
  (hlow:((List.range ops.size).all fun i=>((ops[i]?).map fun o=>o.after.toList.all fun e=> !Region.binds .any e||decide (e.on<i)).getD true)=true)
  (hlast:((List.range n).all fun i=>depOn ops n i)=true)
  (hgd:ops.toList.all (fun o=>o.guard.isNone)=true) (L:List Nat) (hL:Vs.filterMap (·.own)=L) (hbw:base<=w.heap.size) (hown:∀k∈L,k<base) (hnd:L.Nodup)
  (ha:∃u,a=mk u)
  (hstep:∀i o,i<n->ops[i]? =some o->∀u W,Fr (fun k=>k∈L) w W->(∀k,(isAt Vs i).own=some k->W.heap[k]? =w.heap[k]?)->(∀j,depOn ops i j=true->(isAt Vs j).p (u j) W)->Step1 mk Vs i o u W)
  (hend:∀o,ops[n]? =some o->∀u W,Fr (fun k=>k∈L) w W->(∀i,i<n->(isAt Vs i).p (u i) W)->Does o (mk u) W (fun v W'=>Q .normal ((mk u).put o.dst v) W')):(Code.region id ops true).wp Tryz.prog Q a w:=by
 subst hL
 refine wp_region_any hm (wpAny_last (w:=w) mk Vs rfl hn hlow hlast hgd hbw (fun k hk=>hown k (ownS_mem hk)) hnd (fun i o hi ho u W hf=>hstep i o hi ho u W (hf.more fun _=>ownS_mem)) (fun o ho u W hf=>hend o ho u W (hf.more fun _=>ownS_mem)) _ _ _ _ ⟨by simp, .of_below (Below.refl w.heap.size w).drew,fun _ _ _ _=>rfl,by simp[Array.getD,hn], ?_⟩ ?_)
 ·obtain⟨u,rfl⟩:=ha
  exact⟨u,rfl,fun i hi h=>by have:i<ops.size:=by omega
                             simp[Array.getD,this]at h⟩
 ·simp
end
section
variable {a:Act}{o:Oper}{x y z:Operand}{w:World}{ad:Addr}{v:Value}{R:Value->World->Prop}
theorem Does.val{v:Value}{w':World}(h:(execOp a.eval o).run Tryz.prog w= .ok (.value v) w')(hR:R v w'):Does o a w R:= .inl ⟨v,w',h,hR⟩
theorem Does.skip{w':World}(h:(execOp a.eval o).run Tryz.prog w= .ok .skip w')(hR:R undef w'):Does o a w R:= .inr (.inl ⟨w',h,hR⟩)
theorem Does.call{f:FuncId}{args:Array Value}(h:(execOp a.eval o).run Tryz.prog w= .ok (.enter f args) w)(hR:Calls Tryz.prog f args w fun e w'=>∃v,e= .returned v/\R v w'):Does o a w R:= .inr (.inr ⟨f,args,h,hR⟩)
theorem op_mv(ho:o.op= .move x)(hx:a.eval x=v):(execOp a.eval o).run Tryz.prog w= .ok (.value v) w:=by
 unfold execOp
 simp only[ho,hx]
 simp[go_sem]
theorem op_as(ho:o.op= .assign x)(hx:a.eval x=v):(execOp a.eval o).run Tryz.prog w= .ok (.value v) w:=by
 unfold execOp
 simp only[ho,hx]
 simp[go_sem]
theorem op_sub{i j:Int}(ho:o.op= .binOp .sub 3 x y 3)(hx:a.eval x= .int .i64 i)(hy:a.eval y= .int .i64 j):(execOp a.eval o).run Tryz.prog w= .ok (.value (.int .i64 (IntKind.i64.wrap (i-j)))) w:=by
 unfold execOp
 simp only[ho,hx,hy]
 simp[go_sem]
theorem op_ldstr(ho:o.op= .load 9 x)(hx:a.eval x= .pointer (some ad))(hc:w.cell? ad=some v):(execOp a.eval o).run Tryz.prog w= .ok (.value v) w:=by
 unfold execOp
 simp only[ho,hx]
 simp[go_sem,hc]
theorem op_ldbool(ho:o.op= .load 4 x)(hx:a.eval x= .pointer (some ad))(hc:w.cell? ad=some v):(execOp a.eval o).run Tryz.prog w= .ok (.value v) w:=by
 unfold execOp
 simp only[ho,hx]
 simp[go_sem,hc]
theorem op_fae{b off:Nat}(ho:o.op= .fieldAddr 34 x 0)(hx:a.eval x= .pointer (some ⟨b,off,none⟩)):(execOp a.eval o).run Tryz.prog w= .ok (.value (.pointer (some ⟨b,off,none⟩))) w:=by
 unfold execOp
 simp only[ho,hx]
 simp[go_sem]
theorem op_call{f:FuncId}{t:TypeId}(hE:∀args w,(callFunc f args).run Tryz.prog w= .ok (.enter f args) w)(ho:o.op= .call { callee:= .value (.func f),args:= #[x],argTypes:= #[t] })(hx:a.eval x=v):(execOp a.eval o).run Tryz.prog w= .ok (.enter f #[v]) w:=by
 obtain⟨dst,op,type,pos,after,guard⟩:=o
 simp only at ho
 subst ho
 rw[execOp_call_go]
 have e:(#[]++Array.map a.eval #[x]++ #[]:Array Value)= #[v]:=by simp[hx]
 rw[e]
 exact hE _ _
theorem ent_e:∀args w,(callFunc 243 args).run Tryz.prog w= .ok (.enter 243 args) w:=fun args w=>by kernel_rfl
theorem ent_i:∀args w,(callFunc 244 args).run Tryz.prog w= .ok (.enter 244 args) w:=fun args w=>by kernel_rfl
theorem ent_k:∀args w,(callFunc 245 args).run Tryz.prog w= .ok (.enter 245 args) w:=fun args w=>by kernel_rfl
theorem does_store{cs cs0:Array Value}{g:Nat}(ho:o.op= .store 32 x y)(hx:a.eval x= .pointer (some ⟨g,0,none⟩))(hy:a.eval y= .agg cs)(h4:∃b A1 n1 c1 A2 n2 c2 A3 n3 c3,cs= #[.bool b, .slice A1 n1 c1, .slice A2 n2 c2, .slice A3 n3 c3])(hB:Blk w g 32 cs0)(h0:cs0.size=4)(hR:∀w',Blk w' g 32 cs->Fr (fun k=>k=g) w w'->R undef w'):Does o a w R:=by
 have key:∃w',(execOp a.eval o).run Tryz.prog w= .ok .skip w'/\Blk w' g 32 cs/\Fr (fun k=>k=g) w w':=by
  obtain⟨b,A1,n1,c1,A2,n2,c2,A3,n3,c3,rfl⟩:=h4
  obtain⟨d0,d1,d2,d3,rfl⟩:∃d0 d1 d2 d3,cs0= #[d0,d1,d2,d3]:=by
   obtain⟨l⟩:=cs0
   match l,h0 with
   | [d0,d1,d2,d3],_=>exact⟨d0,d1,d2,d3,rfl⟩
  have k0:=hB.cell 0
  have k1:=hB.cell 1
  have k2:=hB.cell 2
  have k3:=hB.cell 3
  have f0:=hB.frozen 0
  have f1:=hB.frozen 1
  have f2:=hB.frozen 2
  have f3:=hB.frozen 3
  have b1:=hB.set_ 0 (.bool b)
  have b2:=b1.set_ 1 (.slice A1 n1 c1)
  have b3:=b2.set_ 2 (.slice A2 n2 c2)
  have b4:=b3.set_ 3 (.slice A3 n3 c3)
  refine⟨_, ?_,by simpa using b4, ?_⟩
  rotate_left 2
  ·unfold execOp
   simp only[ho,hx,hy]
   simp[go_sem,k0,k1,k2,k3,f0,f1,f2,f3]
  ·have hs:∀ (W:World) (i:Nat) (v:Value),Fr (fun k=>k=g) W (W.setCell ⟨g,i,none⟩ v):=fun W i v=>Fr.set_ (S:=fun k=>k=g) rfl v
   exact((hs _ _ _).trans (hs _ _ _)).trans ((hs _ _ _).trans (hs _ _ _))
 obtain⟨w',hr,h1,h2⟩:=key
 exact Does.skip hr (hR w' h1 h2)
theorem op_fan0{b:Nat}(ho:o.op= .fieldAddr 32 x 0)(hx:a.eval x= .pointer (some ⟨b,0,none⟩)):(execOp a.eval o).run Tryz.prog w= .ok (.value (.pointer (some ⟨b,0,none⟩))) w:=by
 unfold execOp
 simp only[ho,hx]
 simp[go_sem]
theorem op_fan1{b:Nat}(ho:o.op= .fieldAddr 32 x 1)(hx:a.eval x= .pointer (some ⟨b,0,none⟩)):(execOp a.eval o).run Tryz.prog w= .ok (.value (.pointer (some ⟨b,1,none⟩))) w:=by
 unfold execOp
 simp only[ho,hx]
 simp[go_sem]
theorem op_fan2{b:Nat}(ho:o.op= .fieldAddr 32 x 2)(hx:a.eval x= .pointer (some ⟨b,0,none⟩)):(execOp a.eval o).run Tryz.prog w= .ok (.value (.pointer (some ⟨b,2,none⟩))) w:=by
 unfold execOp
 simp only[ho,hx]
 simp[go_sem]
theorem op_fan3{b:Nat}(ho:o.op= .fieldAddr 32 x 3)(hx:a.eval x= .pointer (some ⟨b,0,none⟩)):(execOp a.eval o).run Tryz.prog w= .ok (.value (.pointer (some ⟨b,3,none⟩))) w:=by
 unfold execOp
 simp only[ho,hx]
 simp[go_sem]
theorem size_ents(W:World):(sizeOf (Tryz.prog.elem 28)).run Tryz.prog W= .ok 2 W:=size_ent W
theorem und_ents:Tryz.prog.underlying 28=some (.slice (Tryz.prog.elem 28)):=und_ent
theorem op_ld_ents(ho:o.op= .load 28 x)(hx:a.eval x= .pointer (some ad))(hc:w.cell? ad=some v):(execOp a.eval o).run Tryz.prog w= .ok (.value v) w:=by
 unfold execOp
 simp only[ho,hx]
 simp[go_sem,hc]
theorem cut_ents_to(A:Option Addr)(n c i:Nat)(hi:i<=c)(W:World):(Instr.slice 28 (.slice A n c) none (some (.int .i64 i)) none).run Tryz.prog W= .ok (.slice A i c) W:=by
 rw[run_slice_h W 28 A n c und_ents .i64 (i:Int) (by omega) (by omega),size_ents]
 simp only[Result.andThen_ok,sliced,Int.toNat_natCast,Nat.zero_mul,Nat.sub_zero]
 have e:(if c=0 then A else A.map (·.add 0))=A:=by
  split
  ·rfl
  ·cases A<;>rfl
 rw[e]
theorem cut_ents_from(A:Option Addr)(n c i:Nat)(hi:i<=n)(W:World):(Instr.slice 28 (.slice A n c) (some (.int .i64 i)) none none).run Tryz.prog W= .ok (.slice (if c=i then A else A.map (·.add (i*2))) (n-i) (c-i)) W:=by
 rw[run_slice_l W 28 A n c und_ents .i64 (i:Int) (by omega) (by omega),size_ents]
 simp only[Result.andThen_ok,sliced,Int.toNat_natCast]
theorem op_sl_ents_to{A:Option Addr}{n c i:Nat}(ho:o.op= .slice 28 x none (some y) none)(hx:a.eval x= .slice A n c)(hy:a.eval y= .int .i64 i)(hi:i<=c):(execOp a.eval o).run Tryz.prog w= .ok (.value (.slice A i c)) w:=by
 unfold execOp
 simp only[ho,hx,Option.map_some,Option.map_none,hy]
 simp[run_sliceAt_slice _ _ _ _ _ _ und_ents,cut_ents_to A n c i hi]
theorem op_sl_ents_from{A:Option Addr}{n c i:Nat}(ho:o.op= .slice 28 x (some y) none none)(hx:a.eval x= .slice A n c)(hy:a.eval y= .int .i64 i)(hi:i<=n):(execOp a.eval o).run Tryz.prog w= .ok (.value (.slice (if c=i then A else A.map (·.add (i*2))) (n-i) (c-i))) w:=by
 unfold execOp
 simp only[ho,hx,Option.map_some,Option.map_none,hy]
 simp[run_sliceAt_slice _ _ _ _ _ _ und_ents,cut_ents_from A n c i hi]
theorem op_bs_ents1{A0:Option Addr}{n0 c0:Nat}(ho:o.op= .buildSlice 50 1 #[(0,x)])(h0:a.eval x= .slice A0 n0 c0):(execOp a.eval o).run Tryz.prog w= .ok (.value (.slice (some ⟨w.heap.size,0,none⟩) 1 1)) (w.alloc (.cells #[.slice A0 n0 c0] 28)):=by
 unfold execOp
 simp only[ho,List.map_toArray,List.map_cons,List.map_nil,h0]
 simp[go_sem]
theorem op_bs_ents2{A0:Option Addr}{n0 c0:Nat}{A1:Option Addr}{n1 c1:Nat}(ho:o.op= .buildSlice 50 2 #[(0,x),(1,y)])(h0:a.eval x= .slice A0 n0 c0)(h1:a.eval y= .slice A1 n1 c1):(execOp a.eval o).run Tryz.prog w= .ok (.value (.slice (some ⟨w.heap.size,0,none⟩) 2 2)) (w.alloc (.cells #[.slice A0 n0 c0, .slice A1 n1 c1] 28)):=by
 unfold execOp
 simp only[ho,List.map_toArray,List.map_cons,List.map_nil,h0,h1]
 simp[go_sem]
theorem size_ints(W:World):(sizeOf (Tryz.prog.elem 29)).run Tryz.prog W= .ok 1 W:=by kernel_rfl
theorem und_ints:Tryz.prog.underlying 29=some (.slice (Tryz.prog.elem 29)):=by kernel_rfl
theorem op_ld_ints(ho:o.op= .load 29 x)(hx:a.eval x= .pointer (some ad))(hc:w.cell? ad=some v):(execOp a.eval o).run Tryz.prog w= .ok (.value v) w:=by
 unfold execOp
 simp only[ho,hx]
 simp[go_sem,hc]
theorem cut_ints_to(A:Option Addr)(n c i:Nat)(hi:i<=c)(W:World):(Instr.slice 29 (.slice A n c) none (some (.int .i64 i)) none).run Tryz.prog W= .ok (.slice A i c) W:=by
 rw[run_slice_h W 29 A n c und_ints .i64 (i:Int) (by omega) (by omega),size_ints]
 simp only[Result.andThen_ok,sliced,Int.toNat_natCast,Nat.zero_mul,Nat.sub_zero]
 have e:(if c=0 then A else A.map (·.add 0))=A:=by
  split
  ·rfl
  ·cases A<;>rfl
 rw[e]
theorem cut_ints_from(A:Option Addr)(n c i:Nat)(hi:i<=n)(W:World):(Instr.slice 29 (.slice A n c) (some (.int .i64 i)) none none).run Tryz.prog W= .ok (.slice (if c=i then A else A.map (·.add (i*1))) (n-i) (c-i)) W:=by
 rw[run_slice_l W 29 A n c und_ints .i64 (i:Int) (by omega) (by omega),size_ints]
 simp only[Result.andThen_ok,sliced,Int.toNat_natCast]
theorem op_sl_ints_to{A:Option Addr}{n c i:Nat}(ho:o.op= .slice 29 x none (some y) none)(hx:a.eval x= .slice A n c)(hy:a.eval y= .int .i64 i)(hi:i<=c):(execOp a.eval o).run Tryz.prog w= .ok (.value (.slice A i c)) w:=by
 unfold execOp
 simp only[ho,hx,Option.map_some,Option.map_none,hy]
 simp[run_sliceAt_slice _ _ _ _ _ _ und_ints,cut_ints_to A n c i hi]
theorem op_sl_ints_from{A:Option Addr}{n c i:Nat}(ho:o.op= .slice 29 x (some y) none none)(hx:a.eval x= .slice A n c)(hy:a.eval y= .int .i64 i)(hi:i<=n):(execOp a.eval o).run Tryz.prog w= .ok (.value (.slice (if c=i then A else A.map (·.add (i*1))) (n-i) (c-i))) w:=by
 unfold execOp
 simp only[ho,hx,Option.map_some,Option.map_none,hy]
 simp[run_sliceAt_slice _ _ _ _ _ _ und_ints,cut_ints_from A n c i hi]
theorem op_bs_ints1{A0:Option Addr}{n0 c0:Nat}(ho:o.op= .buildSlice 353 1 #[(0,x)])(h0:a.eval x= .slice A0 n0 c0):(execOp a.eval o).run Tryz.prog w= .ok (.value (.slice (some ⟨w.heap.size,0,none⟩) 1 1)) (w.alloc (.cells #[.slice A0 n0 c0] 29)):=by
 unfold execOp
 simp only[ho,List.map_toArray,List.map_cons,List.map_nil,h0]
 simp[go_sem]
theorem op_bs_ints2{A0:Option Addr}{n0 c0:Nat}{A1:Option Addr}{n1 c1:Nat}(ho:o.op= .buildSlice 353 2 #[(0,x),(1,y)])(h0:a.eval x= .slice A0 n0 c0)(h1:a.eval y= .slice A1 n1 c1):(execOp a.eval o).run Tryz.prog w= .ok (.value (.slice (some ⟨w.heap.size,0,none⟩) 2 2)) (w.alloc (.cells #[.slice A0 n0 c0, .slice A1 n1 c1] 29)):=by
 unfold execOp
 simp only[ho,List.map_toArray,List.map_cons,List.map_nil,h0,h1]
 simp[go_sem]
theorem op_bs_ints3{A0:Option Addr}{n0 c0:Nat}{A1:Option Addr}{n1 c1:Nat}{A2:Option Addr}{n2 c2:Nat}(ho:o.op= .buildSlice 353 3 #[(0,x),(1,y),(2,z)])(h0:a.eval x= .slice A0 n0 c0)(h1:a.eval y= .slice A1 n1 c1)(h2:a.eval z= .slice A2 n2 c2):(execOp a.eval o).run Tryz.prog w= .ok (.value (.slice (some ⟨w.heap.size,0,none⟩) 3 3)) (w.alloc (.cells #[.slice A0 n0 c0, .slice A1 n1 c1, .slice A2 n2 c2] 29)):=by
 unfold execOp
 simp only[ho,List.map_toArray,List.map_cons,List.map_nil,h0,h1,h2]
 simp[go_sem]
theorem size_keys(W:World):(sizeOf (Tryz.prog.elem 30)).run Tryz.prog W= .ok 1 W:=by kernel_rfl
theorem und_keys:Tryz.prog.underlying 30=some (.slice (Tryz.prog.elem 30)):=by kernel_rfl
theorem op_ld_keys(ho:o.op= .load 30 x)(hx:a.eval x= .pointer (some ad))(hc:w.cell? ad=some v):(execOp a.eval o).run Tryz.prog w= .ok (.value v) w:=by
 unfold execOp
 simp only[ho,hx]
 simp[go_sem,hc]
theorem cut_keys_to(A:Option Addr)(n c i:Nat)(hi:i<=c)(W:World):(Instr.slice 30 (.slice A n c) none (some (.int .i64 i)) none).run Tryz.prog W= .ok (.slice A i c) W:=by
 rw[run_slice_h W 30 A n c und_keys .i64 (i:Int) (by omega) (by omega),size_keys]
 simp only[Result.andThen_ok,sliced,Int.toNat_natCast,Nat.zero_mul,Nat.sub_zero]
 have e:(if c=0 then A else A.map (·.add 0))=A:=by
  split
  ·rfl
  ·cases A<;>rfl
 rw[e]
theorem cut_keys_from(A:Option Addr)(n c i:Nat)(hi:i<=n)(W:World):(Instr.slice 30 (.slice A n c) (some (.int .i64 i)) none none).run Tryz.prog W= .ok (.slice (if c=i then A else A.map (·.add (i*1))) (n-i) (c-i)) W:=by
 rw[run_slice_l W 30 A n c und_keys .i64 (i:Int) (by omega) (by omega),size_keys]
 simp only[Result.andThen_ok,sliced,Int.toNat_natCast]
theorem op_sl_keys_to{A:Option Addr}{n c i:Nat}(ho:o.op= .slice 30 x none (some y) none)(hx:a.eval x= .slice A n c)(hy:a.eval y= .int .i64 i)(hi:i<=c):(execOp a.eval o).run Tryz.prog w= .ok (.value (.slice A i c)) w:=by
 unfold execOp
 simp only[ho,hx,Option.map_some,Option.map_none,hy]
 simp[run_sliceAt_slice _ _ _ _ _ _ und_keys,cut_keys_to A n c i hi]
theorem op_sl_keys_from{A:Option Addr}{n c i:Nat}(ho:o.op= .slice 30 x (some y) none none)(hx:a.eval x= .slice A n c)(hy:a.eval y= .int .i64 i)(hi:i<=n):(execOp a.eval o).run Tryz.prog w= .ok (.value (.slice (if c=i then A else A.map (·.add (i*1))) (n-i) (c-i))) w:=by
 unfold execOp
 simp only[ho,hx,Option.map_some,Option.map_none,hy]
 simp[run_sliceAt_slice _ _ _ _ _ _ und_keys,cut_keys_from A n c i hi]
theorem op_bs_keys1{A0:Option Addr}{n0 c0:Nat}(ho:o.op= .buildSlice 354 1 #[(0,x)])(h0:a.eval x= .slice A0 n0 c0):(execOp a.eval o).run Tryz.prog w= .ok (.value (.slice (some ⟨w.heap.size,0,none⟩) 1 1)) (w.alloc (.cells #[.slice A0 n0 c0] 30)):=by
 unfold execOp
 simp only[ho,List.map_toArray,List.map_cons,List.map_nil,h0]
 simp[go_sem]
theorem op_bs_keys2{A0:Option Addr}{n0 c0:Nat}{A1:Option Addr}{n1 c1:Nat}(ho:o.op= .buildSlice 354 2 #[(0,x),(1,y)])(h0:a.eval x= .slice A0 n0 c0)(h1:a.eval y= .slice A1 n1 c1):(execOp a.eval o).run Tryz.prog w= .ok (.value (.slice (some ⟨w.heap.size,0,none⟩) 2 2)) (w.alloc (.cells #[.slice A0 n0 c0, .slice A1 n1 c1] 30)):=by
 unfold execOp
 simp only[ho,List.map_toArray,List.map_cons,List.map_nil,h0,h1]
 simp[go_sem]
theorem op_bs_keys3{A0:Option Addr}{n0 c0:Nat}{A1:Option Addr}{n1 c1:Nat}{A2:Option Addr}{n2 c2:Nat}(ho:o.op= .buildSlice 354 3 #[(0,x),(1,y),(2,z)])(h0:a.eval x= .slice A0 n0 c0)(h1:a.eval y= .slice A1 n1 c1)(h2:a.eval z= .slice A2 n2 c2):(execOp a.eval o).run Tryz.prog w= .ok (.value (.slice (some ⟨w.heap.size,0,none⟩) 3 3)) (w.alloc (.cells #[.slice A0 n0 c0, .slice A1 n1 c1, .slice A2 n2 c2] 30)):=by
 unfold execOp
 simp only[ho,List.map_toArray,List.map_cons,List.map_nil,h0,h1,h2]
 simp[go_sem]
theorem op_bs_str{s:ByteArray}(ho:o.op= .buildSlice 30 1 #[(0,x)])(hx:a.eval x= .string s):(execOp a.eval o).run Tryz.prog w= .ok (.value (.slice (some ⟨w.heap.size,0,none⟩) 1 1)) (w.alloc (.cells #[.string s] 9)):=by
 unfold execOp
 simp only[ho,List.map_toArray,List.map_cons,List.map_nil,hx]
 simp[go_sem]
theorem op_ia_ents{b off n c i:Nat}(ho:o.op= .indexAddr 28 x y)(hx:a.eval x= .slice (some ⟨b,off,none⟩) n c)(hy:a.eval y= .int .i64 i)(hi:i<n):(execOp a.eval o).run Tryz.prog w= .ok (.value (.pointer (some ⟨b,off+i*2,none⟩))) w:=by
 unfold execOp
 simp only[ho,hx,hy]
 have h1:(i:Int)<n:=by omega
 simp[go_sem,h1]
theorem op_ia_keys{b off n c i:Nat}(ho:o.op= .indexAddr 30 x y)(hx:a.eval x= .slice (some ⟨b,off,none⟩) n c)(hy:a.eval y= .int .i64 i)(hi:i<n):(execOp a.eval o).run Tryz.prog w= .ok (.value (.pointer (some ⟨b,off+i,none⟩))) w:=by
 unfold execOp
 simp only[ho,hx,hy]
 have h1:(i:Int)<n:=by omega
 simp[go_sem,h1]
theorem op_bd_all{x0 x1 x2 x3:Operand}{A1:Option Addr}{n1 c1:Nat}{A2:Option Addr}{n2 c2:Nat}{A3:Option Addr}{n3 c3:Nat}{b:Bool}(ho:o.op= .build 32 #[(0,x0),(1,x1),(2,x2),(3,x3)])(h0:a.eval x0= .bool b)(h1:a.eval x1= .slice A1 n1 c1)(h2:a.eval x2= .slice A2 n2 c2)(h3:a.eval x3= .slice A3 n3 c3):(execOp a.eval o).run Tryz.prog w= .ok (.value (.agg #[.bool b, .slice A1 n1 c1, .slice A2 n2 c2, .slice A3 n3 c3])) w:=by
 unfold execOp
 simp only[ho,List.map_toArray,List.map_cons,List.map_nil,h0,h1,h2,h3]
 simp[go_sem]
theorem op_bd_leaf{x0 x1:Operand}{A1:Option Addr}{n1 c1:Nat}{b:Bool}(ho:o.op= .build 32 #[(0,x0),(1,x1)])(h0:a.eval x0= .bool b)(h1:a.eval x1= .slice A1 n1 c1):(execOp a.eval o).run Tryz.prog w= .ok (.value (.agg #[.bool b, .slice A1 n1 c1, .slice none 0 0, .slice none 0 0])) w:=by
 unfold execOp
 simp only[ho,List.map_toArray,List.map_cons,List.map_nil,h0,h1]
 simp[go_sem]
theorem op_bd_in{x2 x3:Operand}{A2:Option Addr}{n2 c2:Nat}{A3:Option Addr}{n3 c3:Nat}(ho:o.op= .build 32 #[(2,x2),(3,x3)])(h2:a.eval x2= .slice A2 n2 c2)(h3:a.eval x3= .slice A3 n3 c3):(execOp a.eval o).run Tryz.prog w= .ok (.value (.agg #[.bool false, .slice none 0 0, .slice A2 n2 c2, .slice A3 n3 c3])) w:=by
 unfold execOp
 simp only[ho,List.map_toArray,List.map_cons,List.map_nil,h2,h3]
 simp[go_sem]
theorem op_bd_join{x1 x2 x3:Operand}{A1:Option Addr}{n1 c1:Nat}{A2:Option Addr}{n2 c2:Nat}{A3:Option Addr}{n3 c3:Nat}(ho:o.op= .build 32 #[(1,x1),(2,x2),(3,x3)])(h1:a.eval x1= .slice A1 n1 c1)(h2:a.eval x2= .slice A2 n2 c2)(h3:a.eval x3= .slice A3 n3 c3):(execOp a.eval o).run Tryz.prog w= .ok (.value (.agg #[.bool false, .slice A1 n1 c1, .slice A2 n2 c2, .slice A3 n3 c3])) w:=by
 unfold execOp
 simp only[ho,List.map_toArray,List.map_cons,List.map_nil,h1,h2,h3]
 simp[go_sem]
end
def Is.key3(base:Nat)(c0 c2:Value)(key:ByteArray):Is base:=⟨none,fun v W=>∃b b',base<=b/\base<=b'/\v= .slice (some ⟨b,0,none⟩) 3 3/\Blk W b 30 #[c0, .slice (some ⟨b',0,none⟩) 1 1,c2]/\Blk W b' 9 #[.string key],fun _ _ _ _ ⟨b,b',h0,h0',h1,h2,h3⟩ hf hS=>⟨b,b',h0,h0',h1,hf.blk h2 (fun a=>by have:=hS b a;omega),hf.blk h3 (fun a=>by have:=hS b' a;omega)⟩⟩
theorem ls_one{W:World}{b B:Nat}{key:ByteArray}(h:Blk W b 9 #[.string key])(hb:b<B):LS keyE W B (some ⟨b,0,none⟩) [key]:=by
 refine⟨rfl,fun _=>⟨⟨b,0,none⟩,rfl,hb,fun j u hu=> ?_⟩⟩
 have e:keyE.cells [key]= [.string key]:=by simp[Enc.cells,keyE]
 rw[e]at hu
 have hj:j=0:=by
  cases j with
  |zero=>rfl
  |succ j=>simp at hu
 subst hj
 have:=h.cell 0
 simp at hu
 subst hu
 simpa[Addr.add]using this
def StructT(ty:TypeId)(n:Nat):Prop:=∃fs,Tryz.prog.underlying ty=some (.struct fs)/\(Tryz.prog.info? ty).map (·.size)=some n
theorem node_struct:StructT 32 4:=⟨_,Tryz.underlying32,by kernel_rfl⟩
section
variable {fn:Func}{p q u:Tmp}{ty ty':TypeId}{tmps:Array Value}{w:World}{g g' n n':Nat}{cs cs':Array Value}
theorem loadVar_blk(hT:StructT ty n)(hB:Blk w g ty cs)(hn:cs.size=n):(loadVar ty ⟨g,0,none⟩).run Tryz.prog w= .ok (.agg cs) w:=by
 obtain⟨d,h1,h3⟩:=hT
 exact run_loadVar_row w g ty ty cs (0,0) _ hB h1 rfl (by rw[h3,hn])
theorem res_cell(hT:StructT ty n)(h:fn.results= #[.cell p ty])(hp:tmps.getD p undef= .pointer (some ⟨g,0,none⟩))(hB:Blk w g ty cs)(hn:cs.size=n):(results fn tmps).run Tryz.prog w= .ok (.agg cs) w:=by
 have hp':tmps[p]?.getD undef= .pointer (some ⟨g,0,none⟩):=by simpa using hp
 simp[results,h,hp',asAddr,loadVar_blk hT hB hn]
theorem res_cell_tmp(hT:StructT ty n)(h:fn.results= #[.cell p ty, .tmp u])(hp:tmps.getD p undef= .pointer (some ⟨g,0,none⟩))(hB:Blk w g ty cs)(hn:cs.size=n):(results fn tmps).run Tryz.prog w= .ok (.tuple #[.agg cs,tmps.getD u undef]) w:=by
 have hp':tmps[p]?.getD undef= .pointer (some ⟨g,0,none⟩):=by simpa using hp
 simp only[results,h]
 simp[hp',asAddr,loadVar_blk hT hB hn]
theorem res_cell_tmp_cell(hT:StructT ty n)(hT':StructT ty' n')(h:fn.results= #[.cell p ty, .tmp u, .cell q ty'])(hp:tmps.getD p undef= .pointer (some ⟨g,0,none⟩))(hB:Blk w g ty cs)(hn:cs.size=n)(hq:tmps.getD q undef= .pointer (some ⟨g',0,none⟩))(hB':Blk w g' ty' cs')(hn':cs'.size=n'):(results fn tmps).run Tryz.prog w= .ok (.tuple #[.agg cs,tmps.getD u undef, .agg cs']) w:=by
 have hp':tmps[p]?.getD undef= .pointer (some ⟨g,0,none⟩):=by simpa using hp
 have hq':tmps[q]?.getD undef= .pointer (some ⟨g',0,none⟩):=by simpa using hq
 simp only[results,h]
 simp[hp',hq',asAddr,loadVar_blk hT hB hn,loadVar_blk hT' hB' hn']
end
theorem LO.frB{α:Type}{E:Enc α}{ty:TypeId}{base:Nat}{v:Value}{l:List α}{S:Nat->Prop}{w w':World}(h:LO E ty w base v l)(hf:Fr S w w')(hS:∀g,v.ownBlock=some g->¬S g):LO E ty w' base v l:=by
 obtain⟨h1,h2⟩:=h
 refine⟨h1, ?_⟩
 rcases h2 with h2 | ⟨g,cap,cur,e1,e2,e3,e4⟩
 ·exact .inl h2
 ·exact .inr ⟨g,cap,cur,e1,e2,(hf.block g (Array.getElem?_eq_some_iff.1 e3).1 (hS g (by rw[e1];rfl))).trans e3,e4⟩
theorem LO.held{α:Type}{E:Enc α}{ty:TypeId}{base:Nat}{v:Value}{l:List α}{w w':World}(h:LO E ty w base v l)(hk:∀g,v.ownBlock=some g->w'.heap[g]? =w.heap[g]?):LO E ty w' base v l:=by
 obtain⟨h1,h2⟩:=h
 refine⟨h1, ?_⟩
 rcases h2 with h2 | ⟨g,cap,cur,e1,e2,e3,e4⟩
 ·exact .inl h2
 ·exact .inr ⟨g,cap,cur,e1,e2,(hk g (by rw[e1];rfl)).trans e3,e4⟩
theorem Fr.of_grown{w w':World}{o:Option Nat}(h:w.grownBy w' o):Fr (fun k=>o=some k) w w':=⟨h.os,h.tape,h.output,h.size,fun k hk hn=>h.block k hk (fun e=>hn e.symm)⟩
def Is.app(base:Nat){α:Type}(E:Enc α)(ty:TypeId)(bs:Nat)(o:Option Nat)(l:List α):Is base:=
 ⟨o,fun v W=>LO E ty W bs v l/\(∃A c,v= .slice A l.length c)/\(v.ownBlock=o\/∃b,v.ownBlock=some b/\base<=b),fun v W W' S ⟨h1,h2,h3⟩ hf hS=>⟨h1.frB hf (fun g hg a=>by
  have:=hS g a
  rcases h3 with h3 | ⟨b,h3,h4⟩
  ·exact this.2 (h3 ▸ hg)
  ·rw[h3]at hg;injection hg with hg;omega),h2,h3⟩⟩
def Is.turn(base g:Nat)(ty:TypeId)(x:Value)(cs:Array Value):Is base:=⟨some g,fun v W=>v=x/\Blk W g ty cs,fun _ _ _ _ ⟨h1,h2⟩ hf hS=>⟨h1,hf.blk h2 (fun a=>(hS g a).2 rfl)⟩⟩
section
variable {a:Act}{o:Oper}{x y z:Operand}{w:World}{ad:Addr}{v:Value}{R:Value->World->Prop}
theorem op_call2{f:FuncId}{t t':TypeId}{v':Value}(hE:∀args w,(callFunc f args).run Tryz.prog w= .ok (.enter f args) w)(ho:o.op= .call { callee:= .value (.func f),args:= #[x,y],argTypes:= #[t,t'] })(hx:a.eval x=v)(hy:a.eval y=v'):(execOp a.eval o).run Tryz.prog w= .ok (.enter f #[v,v']) w:=by
 obtain⟨dst,op,type,pos,after,guard⟩:=o
 simp only at ho
 subst ho
 rw[execOp_call_go]
 have e:(#[]++Array.map a.eval #[x,y]++ #[]:Array Value)= #[v,v']:=by simp[hx,hy]
 rw[e]
 exact hE _ _
theorem does_app1{α:Type}{E:Enc α}{t ty:TypeId}{zv:Value}{bytes bs b:Nat}{l:List α}{s:α}{sv:Value}(hE:EI Tryz.prog ty zv 1 bytes)(ht:Tryz.prog.underlying t=some (.slice ty))(hz:zv.cells.size=1)(hs1:E.size=1)(hen:E.enc s= [sv])
  (ho:o.op= .call { callee:= .builtin .append,args:= #[x,y],argTypes:= #[t,t] }) (hx:a.eval x=v) (hown:LO E ty w bs v l) (hy:a.eval y= .slice (some ⟨b,0,none⟩) 1 1) (hB:Blk w b ty #[sv]) (hlen:l.length+1<=maxLen) (hby:(l.length+1)*bytes<=140737488355328) (hbs:bs<=w.heap.size)
  (hR:∀v' w',LO E ty w' bs v' (l++ [s])->w.grownBy w' v.ownBlock->(v'.ownBlock=v.ownBlock\/∃g,v'.ownBlock=some g/\w.heap.size<=g)->R v' w'):Does o a w R:=by
 obtain⟨i,hi,hz0,hz1,hz2⟩:=hE
 have h1:∀u∈ [sv],u.oneCell'=true:=fun u hu=>E.one s u (by rw[hen];exact hu)
 have hcell:∀ (j:Nat) (u:Value),([sv]:List Value)[j]? =some u->w.cell? ((⟨b,0,none⟩:Addr).add j)=some u:=by
  intro j u hu
  have e1:((⟨b,0,none⟩:Addr).add j)=⟨b,j,none⟩:=by rw[Addr.add_lit];simp
  rw[e1,hB.cell j]
  simpa using hu
 have hown':w.ownsRow bs ty 1 v l.length (E.cells l):=hown.raw rfl hs1
 obtain⟨v',w',hrun,h2,h3,h4,h5⟩:=run_append_own_at (P:=Tryz.prog) w bs t o.type ty i zv 1 bytes ht hi hz0 hz1 hz2 hz (by decide) v l.length (E.cells l) hown' ⟨b,0,none⟩ 1 1 [sv] (by simp) hcell h1 hlen hby hbs
 refine Does.val (v:=v') (w':=w') ?_ (hR v' w' ?_ h3 ?_)
 ·unfold execOp
  simp only[ho,resolve,invoke,builtin,Sem.run_bind,Sem.run_pure,Result.andThen_ok,List.map_toArray,List.map_cons,List.map_nil,hx,hy,hrun]
 ·unfold LO
  rw[hs1,E.cells_snoc,hen,List.length_append]
  exact h2
 ·rcases h5 with h5 | h5
  ·exact .inl h5
  ·exact .inr ⟨_,h5,Nat.le_refl _⟩
theorem op_bs_int1{i:Int}(ho:o.op= .buildSlice 29 1 #[(0,x)])(hx:a.eval x= .int .i64 i):(execOp a.eval o).run Tryz.prog w= .ok (.value (.slice (some ⟨w.heap.size,0,none⟩) 1 1)) (w.alloc (.cells #[.int .i64 i] 3)):=by
 unfold execOp
 simp only[ho,List.map_toArray,List.map_cons,List.map_nil,hx]
 simp[go_sem]
theorem op_st_keys{A:Option Addr}{n c:Nat}{u:Value}(ho:o.op= .store 30 x y)(hx:a.eval x= .pointer (some ad))(hy:a.eval y= .slice A n c)(hc:w.cell? ad=some u)(hf:w.frozen? ad=false):(execOp a.eval o).run Tryz.prog w= .ok .skip (w.setCell ad (.slice A n c)):=by
 unfold execOp
 simp only[ho,hx,hy]
 simp[go_sem,hc,hf]
theorem op_st_ints{A:Option Addr}{n c:Nat}{u:Value}(ho:o.op= .store 29 x y)(hx:a.eval x= .pointer (some ad))(hy:a.eval y= .slice A n c)(hc:w.cell? ad=some u)(hf:w.frozen? ad=false):(execOp a.eval o).run Tryz.prog w= .ok .skip (w.setCell ad (.slice A n c)):=by
 unfold execOp
 simp only[ho,hx,hy]
 simp[go_sem,hc,hf]
end
theorem LO.one{α:Type}{E:Enc α}{ty:TypeId}{w:World}{g base:Nat}{s:α}{sv:Value}(hs:E.size=1)(hen:E.enc s= [sv])(hB:Blk w g ty #[sv])(hb:base<=g):LO E ty w base (.slice (some ⟨g,0,none⟩) 1 1) [s]:=by
 refine⟨?_, .inr ⟨g,1, #[sv],rfl,hb,hB, ?_⟩⟩
 ·rw[E.cells_length]
 ·rw[hs,E.cells_one,hen]
  exact⟨Nat.le_refl _,by unfold maxLen;omega,rfl,by simp⟩
theorem own_neq{α β:Type}{E:Enc α}{F:Enc β}{ty ty':TypeId}{w:World}{b b':Nat}{v v':Value}{l:List α}{l':List β}(h:LO E ty w b v l)(h':LO F ty' w b' v' l')(hne:ty≠ty'){g:Nat}(hg:v.ownBlock=some g):v'.ownBlock≠some g:=by
 rcases h.2 with⟨rfl,_⟩ | ⟨g1,cap,cur,rfl,_,h3,_⟩
 ·simp[Value.ownBlock]at hg
 ·have e:g1=g:=by simpa[Value.ownBlock]using hg
  subst e
  exact own_blk_ne (t:=ty) h' h3 (Ne.symm hne)
end Go.Proofs.YtjoiajmbfbjnnaaGreatDoor
namespace Go.Proofs.YtjoiajmbfbjnnaaGreatDoor
open Go.RowKit
end Go.Proofs.YtjoiajmbfbjnnaaGreatDoor
namespace Td
open Nd En Tp
variable {v v':Int->Option Node}
def Run(v:Int->Option Node)(W:List Dl)(a b:List It)(o:List Dl)(m:Nat):Prop:=∃A B m1 m2,Sd v a A m1/\Sd v b B m2/\Srt A/\Srt B/\o++mergeD A B=W/\m1+m2=m
end Td
namespace Td
open Nd En Tp
end Td
