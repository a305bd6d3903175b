/- Part of this proof. -/
import Derived.Test.YteppebbmnojapaaGreatDoorL21
set_option maxRecDepth 100000
set_option maxHeartbeats 8000000
namespace Go.Proofs.YteppebbmnojapaaGreatDoor
open Go.RowKit Go.Shelf
structure NB(n:Nd.Node):Prop where
 e:n.ents.length<=100000
 i:n.kids.length<=100000
 k:n.keys.length<=100000
 es:Nd.aK n.ents<=1000000000
 ks:Nd.aF n.keys<=1000000000
theorem jT(v:Value)(n:Nd.Node)(w:World)(h:NS w v n)(hb:NB n):
  Calls Tryz.prog 297 #[v] w fun e w'=>e= .returned (.bool (Nd.right n))/\Below w.heap.size w w':=by
 obtain⟨Ae,ce,Ai,ci,Ay,cy,rfl,h1,h2,h3⟩:=h
 cases hlf:n.leaf with
 |true=>exact JB Ae Ai Ay ce ci cy n hlf w h1 hb.e hb.i hb.k
 |false=>exact Hg Ae Ai Ay ce ci cy n hlf w h2 h3 hb.e hb.i hb.k
theorem Eb(l:List ByteArray)(k:Nat):Nd.aF (l.take k)<=Nd.aF l:=by
 have:=Nd.bK (l.take k) (l.drop k)
 rw[List.take_append_drop]at this
 omega
theorem NC(Ae Ai Ay:Option Addr)(ce ci cy:Nat)(n:Nd.Node)(hlf:n.leaf=true)(w:World)(he:SV bD w Ae ce n.ents)(hb:NB n):
  Calls Tryz.prog 266 #[aP true Ae n.ents.length ce Ai n.kids.length ci Ay n.keys.length cy] w fun e w'=>e= .returned (.int .i64 (Nd.size n:Nat))/\Below w.heap.size w w':=by
 have hq:Nd.size n=Nd.aK n.ents:=by unfold Nd.size;rw[if_pos hlf]
 rw[hq]
 have hE:=ak (xU Ae ce n.ents (w.alloc (.cells #[.bool true, .slice Ae n.ents.length ce, .slice Ai n.kids.length ci, .slice Ay n.keys.length cy] 146)) (he.ls.up ((Below.refl _ _).alloc (Nat.le_refl _) _)) hb.e hb.es)
 unfold aP
 generalize n.kids.length=ni at*
 generalize n.keys.length=ny at*
 generalize Nd.aK n.ents=S at*
 clear hq he
 go_enter Tryz.func266,Tryz.ntmps266
 go_wp2_with fail
 refine hE.out.mono ?_
 rintro e w1 ⟨rfl,hb1⟩
 go_wp2
 go_ret
 exact⟨rfl,((Below.refl _ _).alloc (Nat.le_refl _) _).trans (hb1.mono (by simp))⟩
theorem JC(Ae Ai Ay:Option Addr)(ce ci cy:Nat)(n:Nd.Node)(hlf:n.leaf=false)(w:World)(hy:SV keyE w Ay cy n.keys)(hb:NB n):
  Calls Tryz.prog 266 #[aP false Ae n.ents.length ce Ai n.kids.length ci Ay n.keys.length cy] w fun e w'=>e= .returned (.int .i64 (Nd.size n:Nat))/\Below w.heap.size w w':=by
 have hq:Nd.size n=4+Nd.aF n.keys:=by unfold Nd.size;rw[if_neg (by rw[hlf];simp)]
 rw[hq]
 have hbe:=(Below.refl w.heap.size w).alloc (Nat.le_refl _) (.cells #[.bool false, .slice Ae n.ents.length ce, .slice Ai n.kids.length ci, .slice Ay n.keys.length cy] 146)
 have hk:=hy.ls.below hbe
 have hl3:=hb.k
 have hT:=Lib.hid (fun k=>Eb n.keys k)
 have hks:=hb.ks
 unfold aP
 generalize hkl:n.keys=ks at*
 clear hkl hy hq hb
 generalize n.kids.length=ni at*
 generalize n.ents.length=ne at*
 obtain⟨R,hR⟩:∃R,R=Nd.aF ks:=⟨_,rfl⟩
 rw[<-hR]at hks ⊢
 have HR:=Lib.hid hR
 clear hR
 go_enter Tryz.func266,Tryz.ntmps266
 go_wp2
 go_loop [3,5,14] (fun s _ i=>∃k m:Nat,k<=ks.length/\i= .int .i64 k/\s= .int .i64 m/\m<=2000000000/\Hid (m=4+Nd.aF (ks.take k))) (fun _ _ i=>ks.length-(intOf i).toNat)
 case atStart=>exact⟨0,4,by omega,rfl,rfl,by omega,Lib.hid rfl⟩
 case round=>
  obtain⟨k,m,hkk,rfl,rfl,hm,HM⟩:=hrel
  by_cases hlt:k<ks.length
  ·obtain⟨b1,o1,rfl,hb1,g0⟩:=hk.key hlt
   have h1:=Nd.zN ks k hlt
   have h2:=hT.out (k+1)
   have hmm:=HM.out
   rw[h1]at h2
   have H1:=Lib.hid h1
   obtain⟨x,hx⟩:∃x,x=ks[k]:=⟨_,rfl⟩
   rw[<-hx]at g0 h2
   have h3:m+(5+x.size)<=1000000004:=by rw[HR.out]at hks;have:Nd.ksz x=5+x.size:=rfl;omega
   have HX:=Lib.hid hx
   clear h1 hx h2 hmm
   have h5:0<=(x.size:Int):=by omega
   go_wp2
   go_round
   case rel=>
    refine⟨k+1,m+(5+x.size),by omega,by go_num,by go_num,by omega,Lib.hid ?_⟩
    rw[H1.out,HM.out, <-HX.out];show _=_+(_+(5+x.size));omega
   case measure=>simp[intOf];omega
  ·obtain rfl:k=ks.length:=by omega
   go_wp2
   go_ret
   refine⟨?_,hbe⟩
   have e1:m=4+R:=by rw[HM.out,HR.out,List.take_length]
   rw[e1];rfl
theorem x9(v:Value)(n:Nd.Node)(w:World)(h:NS w v n)(hb:NB n):
  Calls Tryz.prog 266 #[v] w fun e w'=>e= .returned (.int .i64 (Nd.size n:Nat))/\Below w.heap.size w w':=by
 obtain⟨Ae,ce,Ai,ci,Ay,cy,rfl,h1,h2,h3⟩:=h
 cases hlf:n.leaf with
 |true=>exact NC Ae Ai Ay ce ci cy n hlf w h1 hb
 |false=>exact JC Ae Ai Ay ce ci cy n hlf w h3 hb
theorem oU(v:Value)(n:Nd.Node)(w:World)(h:NS w v n)(hb:NB n):
  Calls Tryz.prog 278 #[v] w fun e w'=>e= .returned (.bool (Nd.fits n))/\Below w.heap.size w w':=by
 obtain⟨Ae,ce,Ai,ci,Ay,cy,rfl,h1,h2,h3⟩:=h
 have hns:NS w (aP n.leaf Ae n.ents.length ce Ai n.kids.length ci Ay n.keys.length cy) n:=⟨_,_,_,_,_,_,rfl,h1,h2,h3⟩
 have hbe:=(Below.refl w.heap.size w).alloc (Nat.le_refl _) (.cells #[.bool n.leaf, .slice Ae n.ents.length ce, .slice Ai n.kids.length ci, .slice Ay n.keys.length cy] 146)
 have BK:=hns.up hbe
 have hR:=ak (jT _ n _ BK hb)
 have HS:=Lib.hid (fun W (hW:NS W (aP n.leaf Ae n.ents.length ce Ai n.kids.length ci Ay n.keys.length cy) n)=>x9 _ n W hW hb)
 have hB:=Blk.new w 146 #[.bool n.leaf, .slice Ae n.ents.length ce, .slice Ai n.kids.length ci, .slice Ay n.keys.length cy]
 have hq:Nd.fits n=(Nd.right n&&decide (Nd.size n<=240)):=rfl
 rw[hq]
 have hsb:Nd.size n<=1000000004:=by unfold Nd.size;have:=hb.es;have:=hb.ks;split<;>omega
 have HNS:=Lib.hid BK
 clear h1 h2 h3 hns BK hq hb
 unfold aP at*
 obtain⟨s,hs⟩:∃s,s=Nd.size n:=⟨_,rfl⟩
 rw[<-hs]at HS hsb ⊢
 clear hs
 cases hr:Nd.right n with
 |false=>
  rw[hr]at hR
  clear hr
  go_enter Tryz.func278,Tryz.ntmps278
  go_wp2_with fail
  refine hR.out.mono ?_
  rintro e w1 ⟨rfl,hb1⟩
  go_wp2
  go_ret
  exact⟨rfl,hbe.trans (hb1.mono hbe.size)⟩
 |true=>
  rw[hr]at hR
  clear hr
  go_enter Tryz.func278,Tryz.ntmps278
  go_wp2_with fail
  refine hR.out.mono ?_
  rintro e w1 ⟨rfl,hb1⟩
  have hB1:=hB.below hb1 hB.lt
  have c0:=hB1.cell 0
  have c1:=hB1.cell 1
  have c2:=hB1.cell 2
  have c3:=hB1.cell 3
  have hl1:=hB1.lt
  have hS1:=Lib.hid (HS.out w1 (HNS.out.up hb1))
  have hbb:=hbe.trans (hb1.mono hbe.size)
  clear hb1
  go_wp2_with fail
  refine hS1.out.mono ?_
  rintro e w2 ⟨rfl,hb2⟩
  go_wp2
  go_ret
  exact⟨by simp;omega,hbb.trans (hb2.mono hbb.size)⟩
theorem Hl(Ae Ai Ay:Option Addr)(ce ci cy:Nat)(n:Nd.Node)(hlf:n.leaf=true)(hfit:Nd.fits n=true)(w:World)(h:NS w (aP true Ae n.ents.length ce Ai n.kids.length ci Ay n.keys.length cy) n)(he:SV bD w Ae ce n.ents)(hb:NB n):
  Calls Tryz.prog 304 #[aP true Ae n.ents.length ce Ai n.kids.length ci Ay n.keys.length cy] w fun e w'=>e= .returned (.tuple #[.int .u8 1, .string (Nd.str (Nd.enc n)), .int .i64 0])/\Below w.heap.size w w':=by
 have hrt:Nd.right n=true:=by unfold Nd.fits at hfit;exact(Bool.and_eq_true _ _ ▸ hfit).1
 have her:En.right n.ents=true:=by
  unfold Nd.right at hrt;rw[if_pos hlf]at hrt;exact(Bool.and_eq_true _ _ ▸ hrt).1
 have hq:Nd.enc n=encS n.ents:=by unfold Nd.enc encS;rw[if_pos hlf,her];rfl
 rw[hq]
 have hbe:=(Below.refl w.heap.size w).alloc (Nat.le_refl _) (.cells #[.bool true, .slice Ae n.ents.length ce, .slice Ai n.kids.length ci, .slice Ay n.keys.length cy] 146)
 have hB:=Blk.new w 146 #[.bool true, .slice Ae n.ents.length ce, .slice Ai n.kids.length ci, .slice Ay n.keys.length cy]
 have BK:=h.up hbe
 have hR:=ak (jT _ n _ BK hb)
 rw[hrt]at hR
 have HF:=Lib.hid (fun W (hW:NS W (aP true Ae n.ents.length ce Ai n.kids.length ci Ay n.keys.length cy) n)=>oU _ n W hW hb)
 rw[hfit]at HF
 have HE:=Lib.hid (fun W (hW:SV bD W Ae ce n.ents)=>yT Ae ce n.ents W hW.ls hb.e)
 rw[her]at HE
 have HNS:=Lib.hid BK
 have HSV:=Lib.hid (he.up hbe)
 clear hrt her hfit hq BK he h hb hlf
 unfold aP at*
 generalize Nd.str (encS n.ents)=S at*
 go_enter Tryz.func304,Tryz.ntmps304
 go_wp2_with fail
 refine hR.out.mono ?_
 rintro e w1 ⟨rfl,hb1⟩
 have hB1:=hB.below hb1 hB.lt
 have c0:=hB1.cell 0
 have c1:=hB1.cell 1
 have c2:=hB1.cell 2
 have c3:=hB1.cell 3
 have hl1:=hB1.lt
 have hF1:=Lib.hid (HF.out w1 (HNS.out.up hb1))
 have hbb:=hbe.trans (hb1.mono hbe.size)
 have afT:=Lib.hid (HSV.out.up hb1)
 clear hb1
 go_wp2_with fail
 refine hF1.out.mono ?_
 rintro e w2 ⟨rfl,hb2⟩
 have hB2:=hB1.below hb2 hB1.lt
 have d0:=hB2.cell 0
 have d1:=hB2.cell 1
 have hl2:=hB2.lt
 have hE2:=Lib.hid (HE.out w2 (afT.out.up hb2))
 have Wn:=hbb.trans (hb2.mono hbb.size)
 clear c0 c1 c2 c3 hl1 hb2 hB1
 go_wp2_with fail
 refine hE2.out.mono ?_
 rintro e w3 ⟨rfl,hb3⟩
 go_wp2
 go_ret3
 exact⟨rfl,Wn.trans (hb3.mono Wn.size)⟩
theorem BL(ks:List ByteArray)(is:List Int)(hl:ks.length=is.length)(k:Nat)(hk:k<ks.length)(hk2:k<is.length):Nd.oM (ks.take (k+1)) (is.take (k+1))=Nd.oM (ks.take k) (is.take k)++(Nd.text ks[k]++Cp.be 4 (is[k]'hk2).toNat):=by
 unfold Nd.oM
 have hz:k<(ks.zip is).length:=by rw[List.length_zip];omega
 have e:∀j,(ks.take j).zip (is.take j)=(ks.zip is).take j:=fun j=>(List.take_zipWith ..).symm
 rw[e,e,List.take_succ_eq_append_getElem hz,List.flatMap_append]
 simp[Nd.PK]
theorem JD(n:Int)(h0:2<=n)(h1:n<=4294967295)(w:World):Calls Tryz.prog 79 #[.int .i64 4, .int .i64 n] w fun e w'=>e= .returned (.tuple #[.string (Nd.str (Cp.be 4 n.toNat)), .int .i64 0])/\Below w.heap.size w w':=oJ n w (by omega) (by omega)
theorem Ec(Ae Ai Ay:Option Addr)(ce ci cy:Nat)(n:Nd.Node)(hlf:n.leaf=false)(hfit:Nd.fits n=true)(w:World)(h:NS w (aP false Ae n.ents.length ce Ai n.kids.length ci Ay n.keys.length cy) n)(hi:SV aV w Ai ci n.kids)(hy:SV keyE w Ay cy n.keys)(hb:NB n):
  Calls Tryz.prog 304 #[aP false Ae n.ents.length ce Ai n.kids.length ci Ay n.keys.length cy] w fun e w'=>e= .returned (.tuple #[.int .u8 2, .string (Nd.str (Nd.enc n)), .int .i64 0])/\Below w.heap.size w w':=by
 have hrt:Nd.right n=true:=by unfold Nd.fits at hfit;exact(Bool.and_eq_true _ _ ▸ hfit).1
 have hbe:=(Below.refl w.heap.size w).alloc (Nat.le_refl _) (.cells #[.bool false, .slice Ae n.ents.length ce, .slice Ai n.kids.length ci, .slice Ay n.keys.length cy] 146)
 have hB:=Blk.new w 146 #[.bool false, .slice Ae n.ents.length ce, .slice Ai n.kids.length ci, .slice Ay n.keys.length cy]
 have BK:=h.up hbe
 have hR:=ak (jT _ n _ BK hb)
 rw[hrt]at hR
 have HF:=Lib.hid (fun W (hW:NS W (aP false Ae n.ents.length ce Ai n.kids.length ci Ay n.keys.length cy) n)=>oU _ n W hW hb)
 rw[hfit]at HF
 have HNS:=Lib.hid BK
 have hi1:=hi.ls.up hbe
 have hy1:=hy.ls.up hbe
 have hlk:=hb.k
 have adx:Nd.right ⟨false,n.ents,n.kids,n.keys⟩=true:=by
  obtain⟨leaf,ents,kids,keys⟩:=n
  simp only at hlf
  subst hlf
  exact hrt
 obtain⟨he0,hkl,hok,hkf⟩:=Nd.aY.1 adx
 have hm:=((Nd.jd n.keys).1 hkf).1
 obtain⟨i0,is,hkids⟩:∃i0 is,n.kids=i0::is:=by
  cases hkk:n.kids with
  |nil=>rw[hkk]at hkl;simp at hkl
  |cons i0 is=>exact⟨i0,is,rfl⟩
 focus
  have hq:Nd.enc n=Cp.be 4 i0.toNat++Nd.oM n.keys is:=by unfold Nd.enc;rw[if_neg (by rw[hlf];simp),hkids];rfl
  rw[hq]
  have hil:n.keys.length=is.length:=by rw[hkids]at hkl;simpa using hkl
  have HIL:=Lib.hid hil
  have HKL:=Lib.hid (show n.kids.length=is.length+1 by rw[hkids];rfl)
  have HK0:=Lib.hid (show ∀h,n.kids[0]'h=i0 by rw[hkids];intro h;rfl)
  have HKS:=Lib.hid (show ∀k h h2,n.kids[k+1]'h=is[k]'h2 by rw[hkids];intro k h h2;rfl)
  have hi0:=hok i0 (by rw[hkids];exact List.mem_cons_self)
  have HM:=Lib.hid hm
  have HOK:=Lib.hid (show ∀x∈is,2<=x/\x<=4294967295 from fun x hx=>hok x (by rw[hkids];exact List.mem_cons_of_mem _ hx))
  have htake:=Lib.hid (fun k hk hk2=>BL n.keys is hil k hk hk2)
  obtain⟨R,hR2⟩:∃R,R=Nd.str (Cp.be 4 i0.toNat++Nd.oM n.keys is):=⟨_,rfl⟩
  rw[<-hR2]
  have HRR:=Lib.hid hR2
  have hP0:=Lib.hid (fun W=>JD i0 hi0.1 hi0.2 W)
  have hz0:(Nd.str (Cp.be 4 i0.toNat)).size<=4:=by rw[oP,Cp.au];omega
  obtain⟨P0,hP⟩:∃P,P=Nd.str (Cp.be 4 i0.toNat):=⟨_,rfl⟩
  rw[<-hP]at hP0 hz0
  have HP:=Lib.hid hP
  clear hrt adx hfit hq BK hi hy h hb hm hok hkf hR2 hP hkids hi0 he0 hlf hkl hil
  unfold aP at*
  go_enter Tryz.func304,Tryz.ntmps304
  go_wp2_with fail
  refine hR.out.mono ?_
  rintro e w1 ⟨rfl,hb1⟩
  have hB1:=hB.below hb1 hB.lt
  have c0:=hB1.cell 0
  have c1:=hB1.cell 1
  have c2:=hB1.cell 2
  have c3:=hB1.cell 3
  have hl1:=hB1.lt
  have hF1:=Lib.hid (HF.out w1 (HNS.out.up hb1))
  have hbb:=hbe.trans (hb1.mono hbe.size)
  have hi2:=hi1.up hb1
  have hy2:=hy1.up hb1
  clear hb1
  go_wp2_with fail
  refine hF1.out.mono ?_
  rintro e w2 ⟨rfl,hb2⟩
  have hB2:=hB1.below hb2 hB1.lt
  have d0:=hB2.cell 0
  have d2:=hB2.cell 2
  have hl2:=hB2.lt
  have Wn:=hbb.trans (hb2.mono hbb.size)
  have hi3:=hi2.up hb2
  have hy3:=hy2.up hb2
  have hkp:0<n.kids.length:=by rw[HKL.out];omega
  have g0:∃b off,Ai=some ⟨b,off,none⟩/\b<w2.heap.size/\w2.cell? ⟨b,off,none⟩=some (.int .i64 i0):=by
   obtain⟨b,off,e,hb,hc⟩:=hi3.int (k:=0) (by rw[HKL.out];omega)
   rw[HK0.out]at hc
   exact⟨b,off,e,hb,by simpa using hc⟩
  obtain⟨bi,oi,hAi,hbi,g0⟩:=g0
  subst hAi
  clear c0 c1 c2 c3 hl1 hb2 hB1 hi2 hy2 hi1 hy1
  go_wp2_with fail
  refine(hP0.out _).mono ?_
  rintro e w3 ⟨rfl,hb3⟩
  have hB3:=hB2.below hb3 hB2.lt
  have e2:=hB3.cell 2
  have e3:=hB3.cell 3
  have hl3:=hB3.lt
  have Y6:=Wn.trans (hb3.mono Wn.size)
  have hi4:=hi3.up hb3
  have hy4:=hy3.up hb3
  clear d0 d2 g0 hi3 hy3 hb3 hB2
  go_wp2
  go_loopw [7,45] (fun s i wr=>∃ (k:Nat) (S:ByteArray),k<=n.keys.length/\i= .int .i64 k/\s= .string S/\Hid (S=Nd.str (Cp.be 4 i0.toNat++Nd.oM (n.keys.take k) (is.take k)))/\S.size<=4+100*k/\Below w3.heap.size w3 wr) (fun _ i _=>n.keys.length-(intOf i).toNat)
  case atStart=>exact⟨0,P0,by omega,rfl,rfl,Lib.hid (by rw[HP.out];simp[Nd.oM]),by omega,Below.refl _ _⟩
  case round=>
   obtain⟨k,S,hk,rfl,rfl,HSV,hS,nY⟩:=hrel
   by_cases hlt:k<n.keys.length
   ·obtain⟨b2,o2,rfl,hb2,g0⟩:=(hy4.below nY).key hlt
    obtain⟨b3,o3,e5,hb3,g1⟩:=(hi4.below nY).int (k:=k+1) (by rw[HKL.out, <-HIL.out];omega)
    injection e5 with e5;injection e5 with e5 e6;subst e5 e6
    have hm:=HM.out _ (List.getElem_mem hlt)
    have ahF:k+1<n.kids.length:=by rw[HKL.out, <-HIL.out];omega
    have Y7:k<is.length:=by rw[<-HIL.out];exact hlt
    have hki:=HOK.out (is[k]'Y7) (List.getElem_mem _)
    have htk:=Lib.hid (htake.out k hlt Y7)
    rw[HKS.out k _ Y7]at g1
    obtain⟨x,hx⟩:∃x,x=n.keys[k]:=⟨_,rfl⟩
    obtain⟨y,hy⟩:∃y,y=is[k]'Y7:=⟨_,rfl⟩
    rw[<-hx]at g0 hm
    rw[<-hy]at g1 hki
    have HX:=Lib.hid hx
    have HY:=Lib.hid hy
    clear hx hy
    unfold En.may at hm
    simp only[Bool.and_eq_true,decide_eq_true_eq]at hm
    obtain⟨⟨m1,m2⟩,m3⟩:=hm
    have hSx:Hid (S++(Nd.str (Nd.text x)++Nd.str (Cp.be 4 y.toNat))=Nd.str (Cp.be 4 i0.toNat++Nd.oM (n.keys.take (k+1)) (is.take (k+1)))):=Lib.hid (by rw[htk.out,HSV.out,Ah,Ah, <-HX.out, <-HY.out,List.append_assoc])
    have z1:(Nd.str (Nd.text x)).size<=17:=by rw[oP,Nd.gV];omega
    have z2:(Nd.str (Cp.be 4 y.toNat)).size<=4:=by rw[oP,Cp.au];omega
    have t1:=Lib.hid (fun W=>xY x (by omega) W)
    have t2:=Lib.hid (fun W=>JD y hki.1 hki.2 W)
    generalize Nd.str (Nd.text x)=S1 at*
    generalize Nd.str (Cp.be 4 y.toNat)=S2 at*
    have hb2':b2<wr.heap.size:=by have:=nY.size;omega
    have Y8:bi<wr.heap.size:=by have:=nY.size;omega
    have hB4:=hB3.below nY hB3.lt
    have hl4:=hB4.lt
    go_wp2_with fail
    refine(t1.out _).mono ?_
    rintro e w5 ⟨rfl,hb5⟩
    have hB5:=hB4.below hb5 hB4.lt
    have f2:=hB5.cell 2
    have hl5:=hB5.lt
    have g5:=(hb5.cell (p:=⟨bi,oi+(k+1),none⟩) Y8).trans g1
    have ahG:bi<w5.heap.size:=by have:=hb5.size;omega
    have ady:=nY.trans (hb5.mono nY.size)
    clear hb5 hB5 hB4
    go_wp2_with fail
    refine(t2.out _).mono ?_
    rintro e w6 ⟨rfl,hb6⟩
    have afU:=ady.trans (hb6.mono ady.size)
    clear hb6
    have hsz:(S.size:Int)+((S1.size:Int)+S2.size)<=1000000000:=by omega
    have hsz2:(S1.size:Int)+S2.size<=1000000000:=by omega
    go_wp2
    go_roundw
    case rel=>exact⟨k+1,_,by omega,by go_num,rfl,hSx,by rw[ByteArray.size_append,ByteArray.size_append];omega,afU⟩
    case measure=>simp[intOf];omega
   ·obtain rfl:k=n.keys.length:=by omega
    go_wp2
    go_ret3
    refine⟨?_,Y6.trans (nY.mono Y6.size)⟩
    have hs:S=R:=by rw[HSV.out,HRR.out,List.take_length,HIL.out,List.take_length]
    rw[hs];rfl
theorem PO{l:List ByteArray}(h:Nd.tY l){i j:Nat}(hij:i<=j)(hj:j<l.length){k:ByteArray}(hk:En.lt k l[i]=true):En.lt k l[j]=true:=by
 by_cases e:i=j
 ·subst e;exact hk
 ·exact En.lt_trans hk (List.pairwise_iff_getElem.1 h i j (by omega) hj (by omega))
theorem Y9{l:List ByteArray}(h:Nd.tY l){i j:Nat}(hij:i<=j)(hj:j<l.length){k:ByteArray}(hk:En.lt k l[j]=false):En.lt k (l[i]'(by omega))=false:=by
 cases hc:En.lt k (l[i]'(by omega))with
 |false=>rfl
 |true=>rw[PO h hij hj hc]at hk;cases hk
theorem abt(x k:ByteArray):(!Op.bytesLess x.toList k.toList&& !x.toList==k.toList)=Op.bytesLess k.toList x.toList:=by
 have e1:Op.bytesLess x.toList k.toList=En.lt x k:=rfl
 have e2:Op.bytesLess k.toList x.toList=En.lt k x:=rfl
 rw[e1,e2]
 cases h1:En.lt x k with
 |true=>rw[En.uV h1];rfl
 |false=>
  rcases En.yQ h1 with e | e
  ·subst e;rw[En.lt_irrefl];simp
  ·rw[e]
   have hne:(x.toList==k.toList)=false:=by
    rw[beq_eq_false_iff_ne]
    intro hl
    have:En.lt k x=En.lt k k:=by unfold En.lt;rw[hl]
    rw[En.lt_irrefl,e]at this;cases this
   rw[hne];rfl
theorem NG(g1 g2:Nat)(cs:Array Value)(Ay:Option Addr)(cy:Nat)(ks:List ByteArray)(key:ByteArray)(i:Nat)(hi:i<ks.length)(w:World)(hB:Blk w g1 146 cs)(hc3:cs[3]? =some (.slice Ay ks.length cy))(hK:Blk w g2 9 #[.string key])(hl:LS keyE w w.heap.size Ay ks):
  Calls Tryz.prog 262 #[.int .i64 i, .pointer (some ⟨g1,0,none⟩), .pointer (some ⟨g2,0,none⟩)] w fun e w'=>e= .returned (.bool (En.lt key ks[i]))/\Below w.heap.size w w':=by
 obtain⟨b,off,rfl,hb,g0⟩:=hl.key hi
 have c3:=hB.cell 3
 rw[hc3]at c3
 have k0:=hK.cell 0
 have l1:=hB.lt
 have l2:=hK.lt
 generalize ks[i]=x at*
 have hq:En.lt key x=Op.bytesLess key.toList x.toList:=rfl
 rw[hq]
 clear hq
 go_enter Tryz.func262,Tryz.ntmps262
 go_wp2_with fail
 go_quiet (fail)
 go_wp2
 go_ret
 exact⟨congrArg (fun b=>Ending.returned (.bool b)) (abt x key),below_drewN (Below.refl _ _) _⟩
theorem Ho(g1 g2:Nat)(cs:Array Value)(Ay:Option Addr)(cy:Nat)(ks:List ByteArray)(key:ByteArray)(hs:Nd.tY ks)(hlen:ks.length<=1000000)(w:World)(hB:Blk w g1 146 cs)(hc3:cs[3]? =some (.slice Ay ks.length cy))(hK:Blk w g2 9 #[.string key])(hl:LS keyE w w.heap.size Ay ks):
  Calls Tryz.prog 261 #[.int .i64 ks.length, .func (.func 262) #[] #[.pointer (some ⟨g1,0,none⟩), .pointer (some ⟨g2,0,none⟩)]] w fun e w'=>e= .returned (.int .i64 (Nd.child ks key:Nat))/\Below w.heap.size w w':=by
 have HC:=Lib.hid (fun i hi W hB hK hl=>NG g1 g2 cs Ay cy ks key i hi W hB hc3 hK hl)
 have HB:=Lib.hid hB
 have HK:=Lib.hid hK
 have HL:=Lib.hid hl
 have hl1:=hB.lt
 have hl2:=hK.lt
 have HI:=Lib.hid (fun i h h1 h2=>Nd.RG (l:=ks) hs (key:=key) (i:=i) h h1 h2)
 have HS:=Lib.hid hs
 obtain⟨R,hR⟩:∃R,R=Nd.child ks key:=⟨_,rfl⟩
 rw[<-hR]
 have HR:=Lib.hid hR
 clear hR hB hK hl hc3 hs
 go_enter Tryz.func261,Tryz.ntmps261
 go_wp2
 go_loopg [5,6,7] ks.length (fun g s7 s8 _ wr=>∃lo hi:Nat,s7= .int .i64 lo/\s8= .int .i64 hi/\lo<=hi/\hi<=ks.length/\hi-lo<=g/\Below w.heap.size w wr/\Hid ((∀j (hj:j<ks.length),j<lo->En.lt key ks[j]=false)/\(∀j (hj:j<ks.length),hi<=j->En.lt key ks[j]=true)))
 case atStart=>exact⟨0,ks.length,rfl,rfl,Nat.zero_le _,Nat.le_refl _,by omega,Below.refl _ _,Lib.hid ⟨fun j hj h=>absurd h (by omega),fun j hj h=>absurd h (by omega)⟩⟩
 case round=>
  obtain⟨lo,hi,rfl,rfl,hlh,hin,hg,hbe,HJ⟩:=hrel
  by_cases hlt:lo<hi
  ·have hm:(lo+hi) / 2<ks.length:=by omega
   have hc:=HC.out _ hm wr (HB.out.below hbe hl1) (HK.out.below hbe hl2) (HL.out.up hbe)
   obtain⟨q,hq⟩:∃q,q=(lo+hi) / 2:=⟨_,rfl⟩
   have hqi:((lo:Int)+(hi:Int)) / 2=(q:Int):=by omega
   have hq1:lo<=q:=by omega
   have hq2:q<hi:=by omega
   have hm2:q<ks.length:=by omega
   have hsl:=Lib.hid (fun j (h1:q<=j) (hj:j<ks.length) (hk:En.lt key (ks[q]'hm2)=true)=>PO HS.out h1 hj (k:=key) hk)
   have hsg:=Lib.hid (fun j (h1:j<=q) (hj:q<ks.length) (hk:En.lt key ks[q]=false)=>Y9 HS.out h1 hj (k:=key) hk)
   have hcq:Calls Tryz.prog 262 #[.int .i64 q, .pointer (some ⟨g1,0,none⟩), .pointer (some ⟨g2,0,none⟩)] wr fun e w'=>e= .returned (.bool (En.lt key (ks[q]'hm2)))/\Below wr.heap.size wr w':=by
    subst hq;exact hc
   clear hc hq
   cases hlx:En.lt key (ks[q]'hm2)with
   |false=>
    rw[hlx]at hcq
    have HCQ:=Lib.hid hcq
    have HLX:=Lib.hid hlx
    clear hlx hcq
    go_wp2_with fail
    refine Calls.mono HCQ.out ?_
    rintro e w2 ⟨rfl,b3⟩
    go_wp2
    go_roundg (hi-(q+1))
    case measure=>omega
    case rel=>
     refine⟨q+1,hi,by go_num,rfl,by omega,hin,Nat.le_refl _,hbe.trans (b3.mono hbe.size),Lib.hid ⟨fun j hj hj2=> ?_,HJ.out.2⟩⟩
     exact hsg.out j (by omega) hm2 HLX.out
   |true=>
    rw[hlx]at hcq
    have HCQ:=Lib.hid hcq
    have HLX:=Lib.hid hlx
    clear hlx hcq
    go_wp2_with fail
    refine Calls.mono HCQ.out ?_
    rintro e w2 ⟨rfl,b3⟩
    go_wp2
    go_roundg (q-lo)
    case measure=>omega
    case rel=>
     refine⟨lo,q,rfl,by go_num,by omega,by omega,Nat.le_refl _,hbe.trans (b3.mono hbe.size),Lib.hid ⟨HJ.out.1,fun j hj hj2=> ?_⟩⟩
     exact hsl.out j hj2 hj HLX.out
  ·obtain rfl:lo=hi:=by omega
   go_wp2
   go_ret
   refine⟨?_,hbe⟩
   have e1:lo=R:=by rw[HR.out,HI.out lo hin HJ.out.1 HJ.out.2]
   rw[e1];rfl
theorem vg(v:Value)(n:Nd.Node)(key:ByteArray)(w:World)(h:NS w v n)(hb:NB n)(hs:Nd.tY n.keys):
  Calls Tryz.prog 203 #[v, .string key] w fun e w'=>e= .returned (.int .i64 (Nd.child n.keys key:Nat))/\Below w.heap.size w w':=by
 obtain⟨Ae,ce,Ai,ci,Ay,cy,rfl,h1,h2,h3⟩:=h
 have hb1:=(Below.refl w.heap.size w).alloc (Nat.le_refl _) (.cells #[.bool n.leaf, .slice Ae n.ents.length ce, .slice Ai n.kids.length ci, .slice Ay n.keys.length cy] 146)
 have hbe:=hb1.alloc hb1.size (.cells #[.string key] 9)
 have hB:=(Blk.new w 146 #[.bool n.leaf, .slice Ae n.ents.length ce, .slice Ai n.kids.length ci, .slice Ay n.keys.length cy]).alloc (.cells #[.string key] 9)
 have hK:=Blk.new (w.alloc (.cells #[.bool n.leaf, .slice Ae n.ents.length ce, .slice Ai n.kids.length ci, .slice Ay n.keys.length cy] 146)) 9 #[.string key]
 have hS:=ak (Ho w.heap.size (w.heap.size+1) _ Ay cy n.keys key hs (by have:=hb.k;omega) _ hB rfl (by simpa using hK) (h3.ls.up hbe))
 have hk:=hb.k
 generalize Nd.child n.keys key=R at*
 clear h1 h2 h3 hB hK hs hb hb1
 unfold aP
 go_enter Tryz.func203,Tryz.ntmps203
 go_wp2_with fail
 refine hS.out.mono ?_
 rintro e w1 ⟨rfl,hb2⟩
 go_wp2
 go_ret
 exact⟨rfl,hbe.trans (hb2.mono hbe.size)⟩
theorem NH(v:Value)(n:Nd.Node)(w:World)(h:NS w v n)(hb:NB n):
  Calls Tryz.prog 263 #[v] w fun e w'=>e= .returned (.bool (decide (n.ents.length+n.kids.length=0)))/\Below w.heap.size w w':=by
 obtain⟨Ae,ce,Ai,ci,Ay,cy,rfl,h1,h2,h3⟩:=h
 have hbe:=(Below.refl w.heap.size w).alloc (Nat.le_refl _) (.cells #[.bool n.leaf, .slice Ae n.ents.length ce, .slice Ai n.kids.length ci, .slice Ay n.keys.length cy] 146)
 have b1:=hb.e
 have b2:=hb.i
 have hq:decide (n.ents.length+n.kids.length=0)=((n.ents.length:Int)+n.kids.length==0):=by
  by_cases h0:n.ents.length+n.kids.length=0
  ·rw[decide_eq_true h0];symm;rw[beq_iff_eq];omega
  ·rw[decide_eq_false h0];symm;rw[beq_eq_false_iff_ne];omega
 rw[hq]
 clear hq h1 h2 h3 hb
 unfold aP
 generalize n.ents.length=ne at*
 generalize n.kids.length=ni at*
 have hz:(ne:Int)+ni<=1000000:=by omega
 go_enter Tryz.func263,Tryz.ntmps263
 go_wp2
 go_ret
 exact⟨rfl,hbe⟩
end Go.Proofs.YteppebbmnojapaaGreatDoor
namespace Rp
def nums(l:List Run):List Int:=l.flatMap fun r=>(List.range (r.2-r.1+1).toNat).map fun i:Nat=>r.1+(i:Int)
theorem yc(r:Run)(l:List Run):nums (r::l)=((List.range (r.2-r.1+1).toNat).map fun i:Nat=>r.1+(i:Int))++nums l:=by
 unfold nums;rw[List.flatMap_cons]
theorem PS{r:Run}{x:Int} :x∈((List.range (r.2-r.1+1).toNat).map fun i:Nat=>r.1+(i:Int)) ↔ r.1<=x/\x<=r.2:=by
 rw[List.mem_map]
 constructor
 ·rintro⟨i,hi,rfl⟩
  rw[List.mem_range]at hi;omega
 ·rintro⟨h1,h2⟩
  exact⟨(x-r.1).toNat,by rw[List.mem_range];omega,by omega⟩
theorem oV{l:List Run}{x:Int} :x∈nums l ↔ Mem l x:=by
 induction l with
 |nil=>simp[nums,dO]
 |cons r l ih=>rw[yc,List.mem_append,PS,ih,mem_cons]
theorem yV(a:Int)(n:Nat):((List.range n).map fun i:Nat=>a+(i:Int)).Nodup:=by
 unfold List.Nodup
 rw[List.pairwise_map]
 exact List.Pairwise.imp (fun h e=>h (by omega)) (List.nodup_range (n:=n))
theorem vC:∀ (l:List Run) (lo:Int),Canon lo l->(nums l).Nodup
 | [],_,_=>by simp[nums]
 |r::l,lo,h=>by
  rw[yc,List.nodup_append]
  refine⟨yV _ _,vC l _ h.2.2.2,fun a ha b hb e=> ?_⟩
  subst e
  have h1:=PS.1 ha
  have h2:=h.2.2.2.ge (oV.1 hb)
  omega
theorem nums_length:∀ (l:List Run) (lo:Int),Canon lo l->((nums l).length:Int)=size l
 | [],_,_=>by simp[nums,size]
 |r::l,lo,h=>by
  rw[yc,List.length_append]
  have ih:=nums_length l _ h.2.2.2
  have h1:=h.2.1
  unfold size at*
  simp only[List.length_map,List.length_range,List.map_cons,List.sum_cons]
  omega
theorem NI(l:List Run):count l=((nums (norm l)).length:Int):=(nums_length _ 0 (dw l).1).symm
def least(l:List Run):Option Int:=(nums (norm l)).head?
theorem nN{p x:Int} :Mem [(2,p-1)] x ↔ 2<=x/\x<p:=by
 rw[mem_cons];simp only[dO,or_false];omega
structure Ap(room:Int)(fr used:List Run)(mine:List Int)(p:Int):Prop where
 pg:2<=p/\p<=room/\room<=100000
 cf:Canon 0 fr
 cu:Canon 0 used
 hf:∀x,Mem fr x->2<=x/\x<p
 hu:∀x,Mem used x->2<=x/\x<p
 hm:∀x,x∈mine->2<=x/\x<p
 all:∀x,2<=x->x<p->Mem fr x\/Mem used x\/x∈mine
 fu:∀x,Mem fr x->¬Mem used x
 fm:∀x,Mem fr x->x ∉ mine
 um:∀x,Mem used x->x ∉ mine
 nd:mine.Nodup
section
variable {room p:Int}{fr used:List Run}{mine:List Int}
theorem Ap.start(l:List Run)(h:2<=p/\p<=room/\room<=100000):Ap room (meet l [(2,p-1)]) (minus [(2,p-1)] l) [] p:=by
 obtain⟨c1,m1⟩:=lS l [(2,p-1)]
 obtain⟨c2,m2⟩:=iY [(2,p-1)] l
 refine⟨h,c1,c2,fun x hx=>nN.1 ((m1 x).1 hx).2.2.2,fun x hx=>nN.1 ((m2 x).1 hx).2.2.1,fun x hx=>absurd hx List.not_mem_nil,fun x h1 h2=> ?_,fun x hx hy=>((m2 x).1 hy).2.2.2 ((m1 x).1 hx).2.2.1,fun x _ hx=>absurd hx List.not_mem_nil,fun x _ hx=>absurd hx List.not_mem_nil,List.nodup_nil⟩
 have h3:0<=x/\x<=Most:=by unfold Most;omega
 by_cases hl:Mem l x
 ·exact .inl ((m1 x).2 ⟨h3.1,h3.2,hl,nN.2 ⟨h1,h2⟩⟩)
 ·exact .inr (.inl ((m2 x).2 ⟨h3.1,h3.2,nN.2 ⟨h1,h2⟩,hl⟩))
theorem qW{used:List Run}{x:Int}(hx:¬Mem used x):has used x=false:=by
 cases hh:has used x with
 |false=>rfl
 |true=>exact absurd ((zX _ _).1 hh).2.2 hx
theorem Sj{l:List Run}(hc:Canon 0 l){id:Int}(h:least l=some id):Mem l id:=by
 unfold least at h
 rw[uO hc]at h
 exact oV.1 (List.mem_of_head? h)
theorem NJ{l:List Run}(hc:Canon 0 l)(h:least l=none)(x:Int):¬Mem l x:=by
 unfold least at h
 rw[uO hc,List.head?_eq_none_iff]at h
 intro hm
 have:=oV.2 hm
 rw[h]at this;cases this
theorem Ap.free(h:Ap room fr used mine p){id:Int}(hid:least fr=some id):
  id ∉ mine/\has used id=false/\2<=id/\id<p/\Ap room (minus fr [(id,id)]) used (mine++ [id]) p:=by
 have hm:=Sj h.cf hid
 have hr:=h.hf id hm
 obtain⟨c,m⟩:=iY fr [(id,id)]
 refine⟨h.fm id hm,qW (h.fu id hm),hr.1,hr.2,h.pg,c,h.cu,fun x hx=>h.hf x ((m x).1 hx).2.2.1,h.hu,fun x hx=> ?_,fun x h1 h2=> ?_,fun x hx=>h.fu x ((m x).1 hx).2.2.1,fun x hx hx2=> ?_,fun x hx hx2=> ?_, ?_⟩
 ·rcases List.mem_append.1 hx with hx | hx
  ·exact h.hm x hx
  ·simp at hx;subst hx;exact hr
 ·have h3:=h.pg
  rcases h.all x h1 h2 with h4 | h4 | h4
  ·by_cases e:x=id
   ·subst e;exact .inr (.inr (by simp))
   ·exact .inl ((m x).2 ⟨by omega,by unfold Most;omega,h4,fun h5=>e ((sD id x).1 h5)⟩)
  ·exact .inr (.inl h4)
  ·exact .inr (.inr (List.mem_append_left _ h4))
 ·obtain⟨_,_,h4,h5⟩:=(m x).1 hx
  rcases List.mem_append.1 hx2 with h6 | h6
  ·exact h.fm x h4 h6
  ·simp at h6;exact h5 ((sD id x).2 h6)
 ·rcases List.mem_append.1 hx2 with h6 | h6
  ·exact h.um x hx h6
  ·simp at h6;subst h6;exact h.fu x hm hx
 ·rw[List.nodup_append]
  exact⟨h.nd,by simp,fun a ha b hb e=>by simp at hb;subst hb;subst e;exact h.fm _ hm ha⟩
theorem Ap.fresh(h:Ap room fr used mine p)(hp:p<room):
  p ∉ mine/\has used p=false/\Ap room fr used (mine++ [p]) (p+1):=by
 have hpm:p ∉ mine:=fun hx=>by have:=h.hm p hx;omega
 have hpu:¬Mem used p:=fun hx=>by have:=h.hu p hx;omega
 have hpf:¬Mem fr p:=fun hx=>by have:=h.hf p hx;omega
 have h0:=h.pg
 refine⟨hpm,qW hpu,by omega,h.cf,h.cu,fun x hx=>by have:=h.hf x hx;omega,fun x hx=>by have:=h.hu x hx;omega,fun x hx=> ?_,fun x h1 h2=> ?_,h.fu,fun x hx hx2=> ?_,fun x hx hx2=> ?_, ?_⟩
 ·rcases List.mem_append.1 hx with hx | hx
  ·have:=h.hm x hx;omega
  ·simp at hx;omega
 ·by_cases e:x=p
  ·subst e;exact .inr (.inr (by simp))
  ·rcases h.all x h1 (by omega)with h4 | h4 | h4
   ·exact .inl h4
   ·exact .inr (.inl h4)
   ·exact .inr (.inr (List.mem_append_left _ h4))
 ·rcases List.mem_append.1 hx2 with h6 | h6
  ·exact h.fm x hx h6
  ·simp at h6;subst h6;exact hpf hx
 ·rcases List.mem_append.1 hx2 with h6 | h6
  ·exact h.um x hx h6
  ·simp at h6;subst h6;exact hpu hx
 ·rw[List.nodup_append]
  exact⟨h.nd,by simp,fun a ha b hb e=>by simp at hb;subst hb;subst e;exact hpm ha⟩
theorem Ap.dropped(h:Ap room fr used mine p){id:Int}(hid:id∈mine):Ap room (union fr [(id,id)]) used (mine.filter fun x=>x != id) p:=by
 obtain⟨c,m⟩:=qJ fr [(id,id)]
 have hr:=h.hm id hid
 have h0:=h.pg
 have hx2:∀x,x∈(mine.filter fun x=>x != id) ↔ x∈mine/\x≠id:=fun x=>by rw[List.mem_filter];simp
 refine⟨h.pg,c,h.cu,fun x hx=> ?_,h.hu,fun x hx=>h.hm x ((hx2 x).1 hx).1,fun x h1 h2=> ?_,fun x hx hu=> ?_,fun x hx hm=> ?_,fun x hx hm=>h.um x hx ((hx2 x).1 hm).1,h.nd.sublist List.filter_sublist⟩
 ·rcases((m x).1 hx).1 with h4 | h4
  ·exact h.hf x h4
  ·rw[(sD id x).1 h4];exact hr
 ·have hb:0<=x/\x<=Most:=by unfold Most;omega
  rcases h.all x h1 h2 with h4 | h4 | h4
  ·exact .inl ((m x).2 ⟨.inl h4,hb⟩)
  ·exact .inr (.inl h4)
  ·by_cases e:x=id
   ·exact .inl ((m x).2 ⟨.inr ((sD id x).2 e),hb⟩)
   ·exact .inr (.inr ((hx2 x).2 ⟨h4,e⟩))
 ·rcases((m x).1 hx).1 with h4 | h4
  ·exact h.fu x h4 hu
  ·rw[(sD id x).1 h4]at hu;exact h.um id hu hid
 ·obtain⟨h5,h6⟩:=(hx2 x).1 hm
  rcases((m x).1 hx).1 with h4 | h4
  ·exact h.fm x h4 h5
  ·exact h6 ((sD id x).1 h4)
theorem mV{l:List Int}{id:Int}(h:id ∉ l):(l.filter fun x=>x != id)=l:=by
 rw[List.filter_eq_self]
 intro a ha
 simp only[bne_iff_ne,ne_eq]
 rintro rfl
 exact h ha
end
end Rp
namespace Tp
open Nd
abbrev Run:=Rp.Run
structure Pst where
 free:List Run
 pages:Int
 mine:List Int
 nd:Int->Option Node
def Pst.put(σ:Pst)(id:Int)(n:Node):Pst:= { σ with nd:=fun j=>if j=id then some n else σ.nd j }
def Pst.view(disk:Int->Option Node)(σ:Pst)(id:Int):Option Node:=
 if id∈σ.mine then σ.nd id else if 2<=id/\id<σ.pages/\Rp.has σ.free id=false then disk id else none
def eY(free:List Run)(pages room:Int):Option (Int × List Run × Int):=
 match Rp.least free with
 |some id=>some (id,Rp.minus free [(id,id)],pages)
 |none=>if room<=pages then none else some (pages,free,pages+1)
def dF(room:Int)(σ:Pst):Option (Int × Pst):=match eY σ.free σ.pages room with
 |none=>none
 |some (id,fr,p)=>some (id,⟨fr,p,σ.mine++ [id],fun j=>if j=id then none else σ.nd j⟩)
def dK(σ:Pst)(id:Int):Pst:= { σ with free:=if id∈σ.mine then Rp.union σ.free [(id,id)]else σ.free,mine:=σ.mine.filter fun x=>x != id }
def dY(room:Int)(σ:Pst)(id:Int)(n:Node):Except Int Int × Pst:=
 if fits n=false then(.error 3,σ)
 else if id∈σ.mine then(.ok id,σ.put id n)
 else match dF room σ with
  |none=>(.error 2,σ)
  |some (id',σ')=>(.ok id',σ'.put id' n)
abbrev Part:=List Int × List En.Str
def cut(n:Node):Option (Node × En.Str × Node):=if 240<size n then split n else none
def aC(room:Int):Nat->Pst->Int->Node->Except Int Part × Pst
 |0,σ,_,_=>(.error 3,σ)
 |f+1,σ,id,n=>
  if n.ents.length+n.kids.length=0 then(.ok ([], []),dK σ id)
  else match cut n with
   |some (a,key,b)=>match aC room f σ id a with
    |(.error e,σ1)=>(.error e,σ1)
    |(.ok one,σ1)=>match aC room f σ1 0 b with
     |(.error e,σ2)=>(.error e,σ2)
     |(.ok two,σ2)=>(.ok (one.1++two.1,one.2++ [key]++two.2),σ2)
   |none=>match dY room σ id n with
    |(.error e,σ1)=>(.error e,σ1)
    |(.ok p,σ1)=>(.ok ([p], []),σ1)
def fA(n:Node):Nat:=n.ents.length+n.kids.length+1
def sib(n:Node)(i:Nat):Nat:=if i+1=n.kids.length then i-1 else i
def iE(room:Int)(disk:Int->Option Node)(σ:Pst)(n:Node)(i d:Nat):Except Int Node × Pst:=
 if 24<=d then(.error 3,σ)else
 match σ.view disk (n.kids.getD i 0)with
 |none=>(.error 3,σ)
 |some kid=>if 80<=size kid then(.ok n,σ)else
  match σ.view disk (n.kids.getD (sib n i) 0)with
  |none=>(.error 3,σ)
  |some a=>match σ.view disk (n.kids.getD (sib n i+1) 0)with
   |none=>(.error 3,σ)
   |some b=>if(a.leaf != b.leaf)=true\/fits (join a (n.keys.getD (sib n i) ⟨#[]⟩) b)=false then(.ok n,σ)
    else match dY room σ (n.kids.getD (sib n i) 0) (join a (n.keys.getD (sib n i) ⟨#[]⟩) b)with
     |(.error e,σ1)=>(.error e,σ1)
     |(.ok page,σ1)=>(.ok (swap n (sib n i) (sib n i+2) [page] []),dK σ1 (n.kids.getD (sib n i+1) 0))
def dU(room:Int)(disk:Int->Option Node)(p:Part)(σ:Pst)(n:Node)(i d:Nat):Except Int Node × Pst:=
 if p.1.length=1/\1<n.kids.length then iE room disk σ n i d else(.ok n,σ)
def bM(room:Int)(disk:Int->Option Node)(g:List En.Ent->List En.Ent)(key:En.Str):Nat->Pst->Int->Except Int Part × Pst
 |0,σ,_=>(.error 3,σ)
 |f+1,σ,id=>match σ.view disk id with
  |none=>(.error 3,σ)
  |some n=>if n.leaf then aC room (fA (aG (g n.ents))) σ id (aG (g n.ents))
   else match bM room disk g key f σ (n.kids.getD (child n.keys key) 0)with
    |(.error e,σ1)=>(.error e,σ1)
    |(.ok p,σ1)=>match dU room disk p σ1 (swap n (child n.keys key) (child n.keys key+1) p.1 p.2) (child n.keys key) (24-f)with
     |(.error e,σ2)=>(.error e,σ2)
     |(.ok n2,σ2)=>aC room (fA n2) σ2 id n2
def dG(disk:Int->Option Node):Nat->Pst->Int->Except Int Int × Pst
 |0,σ,_=>(.error 3,σ)
 |f+1,σ,id=>match σ.view disk id with
  |none=>(.error 3,σ)
  |some n=>if n.leaf=true\/1<n.kids.length then(.ok id,σ)else dG disk f (dK σ id) (n.kids.getD 0 0)
def fE(room:Int)(disk:Int->Option Node):Nat->Pst->Part->Except Int Int × Pst
 |0,σ,_=>(.error 3,σ)
 |f+1,σ,p=>
  if 1<p.1.length then match aC room (p.1.length+1) σ 0 (ah p.1 p.2)with
   |(.error e,σ1)=>(.error e,σ1)
   |(.ok q,σ1)=>fE room disk f σ1 q
  else match p.1 with
   | []=>(.ok 0,σ)
   |id::_=>dG disk 24 σ id
def jH(room:Int)(disk:Int->Option Node)(g:List En.Ent->List En.Ent)(key:En.Str)(σ:Pst)(root:Int):Except Int Part × Pst:=
 if root=0 then aC room (fA (aG (g []))) σ 0 (aG (g []))else bM room disk g key 24 σ root
def dH(room:Int)(disk:Int->Option Node)(g:List En.Ent->List En.Ent)(key:En.Str)(σ:Pst)(root:Int):Except Int Int × Pst:=
 match jH room disk g key σ root with
 |(.error e,σ1)=>(.error e,σ1)
 |(.ok p,σ1)=>fE room disk (p.1.length+1) σ1 p
def lN(disk:Int->Option Node)(σ:Pst)(key:En.Str):Nat->Int->Except Int (Option En.Str)
 |0,id=>if id=0 then .ok none else .error 3
 |f+1,id=>if id=0 then .ok none else match σ.view disk id with
  |none=> .error 3
  |some n=>if n.leaf then .ok (En.get n.ents key)else lN disk σ key f (n.kids.getD (child n.keys key) 0)
def lM{S:Type}(vis:Int->S->S × Except Int Bool):List Int->S->S × Except Int Bool
 | [],s=>(s, .ok true)
 |k::r,s=>match vis k s with
  |(s', .ok true)=>lM vis r s'
  |(s',x)=>(s',x)
def place(l:List En.Ent)(key:En.Str):Nat:=(l.takeWhile fun x=>En.lt x.1 key).length
def jI{S:Type}(disk:Int->Option Node)(σ:Pst)(frm:En.Str)(step:S->List En.Ent->S × Bool):Nat->Int->S->S × Except Int Bool
 |0,_,s=>(s, .error 3)
 |f+1,id,s=>match σ.view disk id with
  |none=>(s, .error 3)
  |some n=>if n.leaf then((step s (n.ents.drop (place n.ents frm))).1, .ok (step s (n.ents.drop (place n.ents frm))).2)
   else lM (jI disk σ frm step f) (n.kids.drop (child n.keys frm)) s
end Tp
namespace Go.Proofs.YteppebbmnojapaaGreatDoor
open Go.RowKit Go.Shelf
structure Fr(S:Nat->Prop)(w w':World):Prop where
 os:w'.os=w.os
 tape:w'.tape=w.tape
 output:w'.output=w.output
 size:w.heap.size<=w'.heap.size
 block:∀k,k<w.heap.size->¬S k->w'.heap[k]? =w.heap[k]?
section
variable {S S':Nat->Prop}{w w' w'':World}
theorem Fr.refl(w:World):Fr S w w:=⟨rfl,rfl,rfl,Nat.le_refl _,fun _ _ _=>rfl⟩
theorem Fr.of_below(h:Below w.heap.size w w'):Fr S w w':=⟨h.os,h.tape,h.output,h.size,fun k hk _=>h.block k hk⟩
theorem Fr.trans(h:Fr S w w')(h':Fr S w' w''):Fr S w w'':=
 ⟨h'.os.trans h.os,h'.tape.trans h.tape,h'.output.trans h.output,Nat.le_trans h.size h'.size,fun k hk a=>(h'.block k (Nat.lt_of_lt_of_le hk h.size) a).trans (h.block k hk a)⟩
theorem Fr.then_(h:Fr S w w')(h':Below w'.heap.size w' w''):Fr S w w'':=h.trans (.of_below h')
theorem Fr.more(h:Fr S w w')(hS:∀k,S k->S' k):Fr S' w w':=⟨h.os,h.tape,h.output,h.size,fun k hk a=>h.block k hk (fun b=>a (hS k b))⟩
theorem Fr.blk(h:Fr S w w'){g:Nat}{ty:TypeId}{cs:Array Value}(hB:Blk w g ty cs)(hg:¬S g):Blk w' g ty cs:=(h.block g hB.lt hg).trans hB
theorem Fr.aW{g i:Nat}(hg:S g)(v:Value):Fr S w (w.setCell ⟨g,i,none⟩ v):=by
 have h:=aQ (World.grownBy.refl w (some g)) (p:=⟨g,i,none⟩) (.inl rfl) v
 exact⟨h.os,h.tape,h.output,h.size,fun k hk a=>h.block k hk (fun e=>by injection e with e;subst e;exact a hg)⟩
theorem Fr.low{B:Nat}(h:Fr S w w')(hB:B<=w.heap.size)(hS:∀k,S k->B<=k):Below B w w':=⟨h.os,h.tape,h.output,h.size,fun k hk=>h.block k (by omega) (fun a=>by have:=hS k a;omega)⟩
theorem LO.fr{α:Type}{E:Enc α}{ty:TypeId}{base:Nat}{v:Value}{l:List α}(h:LO E ty w base v l)(hf:Fr S w w')(hS:∀k,S k->k<base):LO E ty w' base v l:=by
 obtain⟨h1,h2⟩:=h
 refine⟨h1, ?_⟩
 rcases h2 with h2 | ⟨g,cap,cur,e1,e2,e3,e4⟩
 ·exact .inl h2
 ·exact .inr ⟨g,cap,cur,e1,e2,(hf.block g (Array.getElem?_eq_some_iff.1 e3).1 (fun a=>by have:=hS g a;omega)).trans e3,e4⟩
theorem LO.fr'{α:Type}{E:Enc α}{ty:TypeId}{base:Nat}{v:Value}{l:List α}(h:LO E ty w base v l)(hf:Fr S w w')(hS:∀k,S k->k<base):LO E ty w' base v l:=h.fr hf hS
end
def NF(lo:Nat)(w:World)(v:Value)(n:Nd.Node):Prop:=∃Ae ce Ai ci Ay cy,v=aP n.leaf Ae n.ents.length ce Ai n.kids.length ci Ay n.keys.length cy/\LO bD 101 w lo (.slice Ae n.ents.length ce) n.ents/\LO aV 3 w lo (.slice Ai n.kids.length ci) n.kids/\LO keyE 9 w lo (.slice Ay n.keys.length cy) n.keys
section
variable {S:Nat->Prop}{w w':World}{lo lo':Nat}{v:Value}{n:Nd.Node}
theorem NF.ns(h:NF lo w v n):NS w v n:=by
 obtain⟨Ae,ce,Ai,ci,Ay,cy,e,h1,h2,h3⟩:=h
 exact⟨Ae,ce,Ai,ci,Ay,cy,e,h1.sv,h2.sv,h3.sv⟩
theorem NF.below(h:NF lo w v n)(hb:Below w.heap.size w w'):NF lo w' v n:=by
 obtain⟨Ae,ce,Ai,ci,Ay,cy,e,h1,h2,h3⟩:=h
 exact⟨Ae,ce,Ai,ci,Ay,cy,e,h1.below hb,h2.below hb,h3.below hb⟩
theorem NF.lower(h:NF lo w v n)(hl:lo'<=lo):NF lo' w v n:=by
 obtain⟨Ae,ce,Ai,ci,Ay,cy,e,h1,h2,h3⟩:=h
 exact⟨Ae,ce,Ai,ci,Ay,cy,e,h1.lower hl,h2.lower hl,h3.lower hl⟩
theorem NF.fr(h:NF lo w v n)(hf:Fr S w w')(hS:∀k,S k->k<lo):NF lo w' v n:=by
 obtain⟨Ae,ce,Ai,ci,Ay,cy,e,h1,h2,h3⟩:=h
 exact⟨Ae,ce,Ai,ci,Ay,cy,e,h1.fr hf hS,h2.fr hf hS,h3.fr hf hS⟩
end
def qI(Ai:Option Addr)(ni ci:Nat)(Ay:Option Addr)(ny cy:Nat):Value:= .agg #[.slice Ai ni ci, .slice Ay ny cy]
def PF(lo:Nat)(w:World)(v:Value)(p:Tp.Part):Prop:=∃Ai ci Ay cy,v=qI Ai p.1.length ci Ay p.2.length cy/\LO aV 3 w lo (.slice Ai p.1.length ci) p.1/\LO keyE 9 w lo (.slice Ay p.2.length cy) p.2
section
variable {S:Nat->Prop}{w w':World}{lo lo':Nat}{v:Value}{p:Tp.Part}
theorem PF.below(h:PF lo w v p)(hb:Below w.heap.size w w'):PF lo w' v p:=by
 obtain⟨Ai,ci,Ay,cy,e,h2,h3⟩:=h
 exact⟨Ai,ci,Ay,cy,e,h2.below hb,h3.below hb⟩
theorem PF.fr(h:PF lo w v p)(hf:Fr S w w')(hS:∀k,S k->k<lo):PF lo w' v p:=by
 obtain⟨Ai,ci,Ay,cy,e,h2,h3⟩:=h
 exact⟨Ai,ci,Ay,cy,e,h2.fr hf hS,h3.fr hf hS⟩
end
structure FDt(w:World)(B f d k:Nat)(D:Dk)(s m:Nat)(pv:Value)(Dm:DataW Value):Prop where
 le:B<=f
 self:Blk w f 119 #[.pointer (some ⟨d,0,none⟩)]
 disk:DAt w B d k D s m pv Dm
section
variable {w w':World}{B f d k:Nat}{D:Dk}{s m:Nat}{pv:Value}{Dm:DataW Value}
theorem FDt.adz(h:FDt w B f d k D s m pv Dm):lT w B d k D:=⟨_,_,_,_,h.disk⟩
theorem FDt.fat(h:FDt w B f d k D s m pv Dm):FAt w B f d k D:=⟨h.le,h.self,h.adz⟩
theorem FAt.open_(h:FAt w B f d k D):∃s m pv Dm,FDt w B f d k D s m pv Dm:=by
 obtain⟨s,m,pv,Dm,h4⟩:=h.disk
 exact⟨s,m,pv,Dm,h.le,h.self,h4⟩
theorem FDt.keep(h:FDt w B f d k D s m pv Dm)(hb:Below w.heap.size w w'):FDt w' B f d k D s m pv Dm:=⟨h.le,h.self.below hb h.self.lt,h.disk.keep hb⟩
end
def Wp(B f d k s m:Nat)(pv:Value)(Dm:DataW Value)(x:Bs × Int)(D':Dk)(w:World)(e:Ending)(w':World):Prop:=e= .returned (.tuple #[str x.1, .int .i64 x.2])/\FDt w' B f d k D' s m pv Dm/\Fr (fun g=>g=d) w w'
theorem Wq{w:World}{B d k:Nat}{D:Dk}{s m:Nat}{pv:Value}{Dm:DataW Value}(h:DAt w B d k D s m pv Dm)(i:Int)(hi:D.at_ i=0)(hw:(Lit.int .i64 i).wf=true)(hr:0<=D.reads/\D.reads<4611686018427387904):
  Calls Tryz.prog 307 #[.pointer (some ⟨d,0,none⟩), .int .i64 i] w fun e w'=>e= .returned (.tuple #[str (D.get i), .int .i64 0])/\DAt w' B d k { D with reads:=D.reads+1 } s m pv Dm/\Fr (fun g=>g=d) w w':=by
 obtain⟨hdn,hi0,hin⟩:=Py hi
 obtain⟨n,rfl⟩:=Int.eq_ofNat_of_zero_le hi0
 have hn:n<D.sure.length:=by omega
 have h5:=h.self.cell 5
 have f5:=h.self.frozen 5
 simp only[dZ]at h5
 have h1:=h.turn 5 (.int .i64 (D.reads+1)) { D with reads:=D.reads+1 } rfl rfl rfl rfl
 have htk:=AQ d 5 D.reads w h5 f5 hr
 have g0:=h1.self.cell 0
 have g1:=h1.self.cell 1
 simp only[dZ]at g0 g1
 have hsz:(dZ s m pv D).size=7:=rfl
 obtain⟨v,ps,hlook,hv⟩:=h1.map.look_ok jg Tryz.underlying109 (Tryz.zeroValue9 (w.setCell ⟨d,5,none⟩ (.int .i64 (D.reads+1)))) (GH _) (qN hw)
 have GI:=h1.now n (.held (.string ⟨#[]⟩))
 have hsl:=h1.sure.cell n
 rw[show((D.sure.map str).toArray)[n]? =some (str D.sure[n])by simp[hn]]at hsl
 have hsn:s<(w.setCell ⟨d,5,none⟩ (.int .i64 (D.reads+1))).heap.size:=h1.sure.lt
 have hfin:DAt (w.setCell ⟨d,5,none⟩ (.int .i64 (D.reads+1))) B d k { D with reads:=D.reads+1 } s m pv Dm:=h1
 have HF:=Lib.hid hfin
 have HG:=Lib.hid (Fr.aW (w:=w) (S:=fun g=>g=d) (g:=d) (i:=5) rfl (.int .i64 (D.reads+1)))
 have hget:D.get n=match D.now n with
   |some t=>t
   |none=>D.sure.getD n []:=rfl
 rw[hget]
 have hv2:=I9 hv
 obtain⟨s',rfl,hz⟩:=hv2
 rw[GI.2]at hz
 rw[GI.1]at hlook
 have hat:=fun W (hW:W=w)=>(hW ▸ AP ⟨s,m,pv,Dm,h⟩ (n:Int):Calls Tryz.prog 210 #[.pointer (some ⟨d,0,none⟩), .int .i64 n] W fun e w'=>e= .returned (.int .i64 (D.at_ n))/\w'=W)
 have zM:=hat w rfl
 rw[hi]at zM
 rw[List.getD_eq_getElem?_getD,List.getElem?_eq_getElem hn,Option.getD_some]
 generalize D.sure[n]=sn at*
 cases hD:D.now n with
 |some t=>
  rw[hD]at hz hlook
  simp only[Option.isSome_some]at hlook
  have hs':Value.string s'=str t:=by
   have:=(Prod.mk.inj hz).1
   injection this with this
   exact this.symm
  rw[hs']at hlook
  unfold str at*
  simp only
  generalize D.sure.length=N at*
  clear hfin h h1 GI hv hz hs' hat hget
  go_enter Tryz.func307,Tryz.ntmps307
  go_wp2_with fail
  refine Calls.mono zM ?_
  rintro e w1 ⟨rfl,rfl⟩
  go_wp2_with fail
  refine Calls.mono htk ?_
  rintro e w2 ⟨v2,rfl,rfl⟩
  go_wp2
  go_ret2
  exact⟨rfl,HF.out,HG.out⟩
 |none=>
  rw[hD]at hz hlook
  simp only[Option.isSome_none]at hlook
  have hs':s'=⟨#[]⟩:=by
   have:=(Prod.mk.inj hz).1
   injection this with this
   injection this with this
   exact this.symm
  rw[hs']at hlook
  unfold str at*
  simp only
  have hni:(n:Int)<D.sure.length:=hin
  generalize D.sure.length=N at*
  clear hfin h h1 GI hv hz hs' hat hget
  go_enter Tryz.func307,Tryz.ntmps307
  go_wp2_with fail
  refine Calls.mono zM ?_
  rintro e w1 ⟨rfl,rfl⟩
  go_wp2_with fail
  refine Calls.mono htk ?_
  rintro e w2 ⟨v2,rfl,rfl⟩
  go_wp2
  go_ret2
  exact⟨rfl,HF.out,HG.out⟩
theorem Za{w:World}{B f d k:Nat}{D:Dk}{s m:Nat}{pv:Value}{Dm:DataW Value}(h:FDt w B f d k D s m pv Dm)(hF:Fine D)(hT:HT w)(hB0:1<B)(hB:B<=w.heap.size)(id:Int)(kind:Nat)(o:Option (Nat × Bs))(ho:aS D.sure.length id=false->D.down=false->iH D id o):
  Calls Tryz.prog 273 #[.pointer (some ⟨f,0,none⟩), .int .i64 id, .int .u8 kind] w (Wp B f d k s m pv Dm (frB D.sure.length D.down id kind o) (D.bG id) w):=by
 have hpg:=xO h.fat id
 have hf:=h.self.cell 0
 have hself:=h.self
 have Nv:=h.le
 cases hno:aS D.sure.length id with
 |true=>
  have e1:frB D.sure.length D.down id kind o=([],40):=by unfold frB;rw[hno];rfl
  have e2:D.bG id=D:=by unfold Dk.bG;rw[hno];rfl
  rw[e1,e2]
  rw[hno]at hpg
  clear e1 e2 ho
  go_enter Tryz.func273,Tryz.ntmps273
  go_wp2_with fail
  refine Calls.mono hpg ?_
  rintro e w1 ⟨rfl,rfl⟩
  go_wp2
  go_ret2
  exact⟨rfl,h,Fr.refl _⟩
 |false=>
  rw[hno]at hpg
  have hb2:¬id<2/\¬ (D.sure.length:Int)<=id:=by simpa[aS]using hno
  have hat:=at_eq hno
  have hn:=hF.n
  cases hdn:D.down with
  |true=>
   have e1:frB D.sure.length true id kind o=([],4):=by unfold frB;rw[hno];rfl
   have e2:D.bG id=D:=by unfold Dk.bG;rw[hno,hdn];rfl
   rw[e1,e2]
   rw[hdn]at hat
   have hr:=Ja h.adz id (by rw[hat];decide)
   rw[hat]at hr
   clear e1 e2 ho hat
   unfold str at hr
   go_enter Tryz.func273,Tryz.ntmps273
   go_wp2_with fail
   refine Calls.mono hpg ?_
   rintro e w1 ⟨rfl,rfl⟩
   go_wp2_with fail
   refine Calls.mono hr ?_
   rintro e w2 ⟨rfl,rfl⟩
   go_wp2
   go_ret2
   exact⟨rfl,h,Fr.refl _⟩
  |false=>
   obtain⟨n,rfl⟩:=Int.eq_ofNat_of_zero_le (show 0<=id by omega)
   have e2:D.bG n= { D with reads:=D.reads+1 } :=by unfold Dk.bG;rw[hno,hdn];rfl
   have ho:=ho hno hdn
   rw[e2]
   rw[hdn]at hat
   have hr:=Wq h.disk (n:Int) (by rw[hat];rfl) (by simp[Lit.wf,IntKind.min,IntKind.max,IntKind.signed,IntKind.bits];omega) ⟨hF.reads.1,by have:=hF.reads.2;omega⟩
   have hse:=h.disk.self
   have hle:=h.disk.le.1
   have hfd:f≠d:=hself.ne_ hse (by decide)
   rcases ho with⟨hg,rfl⟩ | ⟨k',b',hk',hb',hg,rfl⟩
   ·have e1:frB D.sure.length false n kind none=([],3):=by unfold frB;rw[hno];rfl
    rw[e1]
    obtain⟨zl,hzl⟩:∃zl,zl=D.get (n:Int):=⟨_,rfl⟩
    rw[<-hzl]at hr hg
    have hop:=fun W hT=>Js (n:Int) zl hg W hT
    unfold ql at hop
    unfold str at hr
    clear hzl
    have HOP:=Lib.hid hop
    clear e1 e2 hat hop hg
    go_enter Tryz.func273,Tryz.ntmps273
    go_wp2_with fail
    refine Calls.mono hpg ?_
    rintro e w1 ⟨rfl,rfl⟩
    go_wp2_with fail
    refine Calls.mono hr ?_
    rintro e w2 ⟨rfl,hD2,hg2⟩
    have hbw2:=hg2.low hB (fun k hk=>by subst hk;exact hle)
    have hF2:FDt w2 B f d k { D with reads:=D.reads+1 } s m pv Dm:=⟨Nv,hg2.blk hself hfd,hD2⟩
    go_wp2_with fail
    refine Calls.mono (HOP.out _ (hT.below hbw2 hB0)) ?_
    rintro e w3 ⟨rfl,hb3⟩
    go_wp2
    go_ret2
    exact⟨rfl,hF2.keep hb3,hg2.then_ hb3⟩
   ·rw[hg]at hr
    have hop:=fun W hT=>ES n k' b' (by omega) hk' hb' W hT
    rw[Int.toNat_natCast]at hr
    unfold ql at hop
    unfold str at hr
    have hkk:((k':Int) != (kind:Int))= !decide (k'=kind):=by
     by_cases e:k'=kind
     ·subst e;simp
     ·simp[e];omega
    by_cases hk2:k'=kind
    ·have e1:frB D.sure.length false n kind (some (k',b'))=(b',0):=by unfold frB;rw[hno,if_neg (by simp),if_neg (by simp)];exact if_pos hk2
     rw[e1]
     generalize Pg.page n k' b'=zl at*
     have HOP:=Lib.hid hop
     have hq:((k':Int) != (kind:Int))=false:=by rw[hkk];simp[hk2]
     clear e1 e2 hat hop hg hkk hk2
     go_enter Tryz.func273,Tryz.ntmps273
     go_wp2_with fail
     refine Calls.mono hpg ?_
     rintro e w1 ⟨rfl,rfl⟩
     go_wp2_with fail
     refine Calls.mono hr ?_
     rintro e w2 ⟨rfl,hD2,hg2⟩
     have hbw2:=hg2.low hB (fun k hk=>by subst hk;exact hle)
     have hF2:FDt w2 B f d k { D with reads:=D.reads+1 } s m pv Dm:=⟨Nv,hg2.blk hself hfd,hD2⟩
     go_wp2_with fail
     refine Calls.mono (HOP.out _ (hT.below hbw2 hB0)) ?_
     rintro e w3 ⟨rfl,hb3⟩
     go_wp2
     go_ret2
     exact⟨rfl,hF2.keep hb3,hg2.then_ hb3⟩
    ·have e1:frB D.sure.length false n kind (some (k',b'))=([],3):=by unfold frB;rw[hno,if_neg (by simp),if_neg (by simp)];exact if_neg hk2
     rw[e1]
     generalize Pg.page n k' b'=zl at*
     have HOP:=Lib.hid hop
     have hq:((k':Int) != (kind:Int))=true:=by rw[hkk];simp[hk2]
     clear e1 e2 hat hop hg hkk hk2
     go_enter Tryz.func273,Tryz.ntmps273
     go_wp2_with fail
     refine Calls.mono hpg ?_
     rintro e w1 ⟨rfl,rfl⟩
     go_wp2_with fail
     refine Calls.mono hr ?_
     rintro e w2 ⟨rfl,hD2,hg2⟩
     have hbw2:=hg2.low hB (fun k hk=>by subst hk;exact hle)
     have hF2:FDt w2 B f d k { D with reads:=D.reads+1 } s m pv Dm:=⟨Nv,hg2.blk hself hfd,hD2⟩
     go_wp2_with fail
     refine Calls.mono (HOP.out _ (hT.below hbw2 hB0)) ?_
     rintro e w3 ⟨rfl,hb3⟩
     go_wp2
     go_ret2
     exact⟨rfl,hF2.keep hb3,hg2.then_ hb3⟩
theorem Ws{B f d kk:Nat}{Dk:Dk}{ds dm:Nat}{dpv:Value}{dDm:DataW Value}(t m n k:Nat)(free:List Run)(pages:Int)(D:DataW Value)(id:Int)(kind:Nat)(hid:(Lit.int .i64 id).wf=true)(hh:Maps.has D (.int .i64 id)=false)(h2i:2<=id)(hip:id<pages)(hno:Rp.has free id=false)(hl:free.length<=80000)(w:World)(h:Txn w t m f n free pages k D)
  (hF:FDt w B f d kk Dk ds dm dpv dDm) (hFi:Fine Dk) (hT:HT w) (hB0:1<B) (hB:B<=w.heap.size) (o:Option (Nat × Bs)) (ho:aS Dk.sure.length id=false->Dk.down=false->iH Dk id o):
  Calls Tryz.prog 212 #[.pointer (some ⟨t,0,none⟩), .int .i64 id, .int .u8 kind] w (Wp B f d kk ds dm dpv dDm (frB Dk.sure.length Dk.down id kind o) (Dk.bG id) w):=by
 have hrd:=fun W (h1:FDt W B f d kk Dk ds dm dpv dDm) (h2:HT W) (h3:B<=W.heap.size)=>Za h1 hFi h2 hB0 h3 id kind o ho
 have hT':=h
 obtain⟨_,⟨v,h2,h3⟩,h4⟩:=h
 obtain⟨A,c,rfl⟩:=h3.form
 have hlt:=h2.lt
 have hc:=h2.cell 3
 obtain⟨u,ps,hrun,hu⟩:=h4.look_ok qM Tryz.underlying120 (Tryz.zeroValue131 w) (oH _ _ _) (MR hid)
 rw[hh]at hrun
 obtain⟨b,q',s',rfl,hz⟩:=oI hu
 unfold content at hrun
 have hb0:Below w.heap.size w (w.alloc (.cells #[.bool b, .int .u8 q', .string s'] 131)):=(Below.refl _ w).alloc (Nat.le_refl _) _
 have hc0:=h2.cell 0
 have hc1:=h2.cell 1
 have hc2:=h2.cell 2
 have hhas:=fun W (h:RS W W.heap.size A free)=>Pq A c free id W h (by omega)
 rw[hno]at hhas
 have hq1:decide (id<2)=false:=decide_eq_false (by omega)
 have hq2:decide (pages<=id)=false:=decide_eq_false (by omega)
 have hrs:=h3.rs
 unfold Wp str at*
 generalize frB Dk.sure.length Dk.down id kind o=r at*
 generalize Dk.bG id=D2 at*
 have afV:=Lib.hid hhas
 have HRD:=Lib.hid hrd
 clear hhas hrd ho hu hz hno hT' h3 h4
 go_enter Tryz.func212,Tryz.ntmps212
 go_wp2_with fail
 refine Calls.mono (afV.out _ ((hrs.below hb0).more hb0.size)) ?_
 rintro e w1 ⟨rfl,hb1⟩
 have mW:=hb0.trans (hb1.mono hb0.size)
 have h2':=h2.below mW hlt
 have hlt':=h2'.lt
 have hc0':=h2'.cell 0
 go_wp2_with fail
 refine Calls.mono (HRD.out _ (hF.keep mW) (hT.below (mW.mono hB) hB0) (Nat.le_trans hB mW.size)) ?_
 rintro e w2 ⟨rfl,g1,g2⟩
 have hend:FDt w2 B f d kk D2 ds dm dpv dDm/\Fr (fun g=>g=d) w w2:=⟨g1,(Fr.of_below mW).trans g2⟩
 have aZ:=Lib.hid hend
 clear hend g1 g2
 go_wp2
 go_ret2
 exact⟨rfl,aZ.out⟩
end Go.Proofs.YteppebbmnojapaaGreatDoor
namespace Go.Proofs.YteppebbmnojapaaGreatDoor
open Go.RowKit Go.Shelf Go.Maps
def flQ(D:Dk)(q:Int->Nat)(bd:Int->Bs)(ss:List Int):Dk:=ss.foldl (fun D id=>D.dW id (q id) (bd id)) D
theorem Wu(D:Dk)(q:Int->Nat)(bd:Int->Bs)(ss:List Int)(j:Nat)(hj:j<ss.length):flQ D q bd (ss.take (j+1))=(flQ D q bd (ss.take j)).dW ss[j] (q ss[j]) (bd ss[j]):=by
 unfold flQ
 rw[List.take_succ_eq_append_getElem hj,List.foldl_append]
 rfl
theorem PU(q:Int->Nat)(bd:Int->Bs)(ss:List Int):∀D:Dk,(flQ D q bd ss).sure.length=D.sure.length:=by
 induction ss with
 |nil=>intro D;rfl
 |cons a r ih=>intro D;show(flQ (D.dW a (q a) (bd a)) q bd r).sure.length=_;rw[ih,Wj]
def Fg(B f d s m:Nat)(D':Dk)(w:World)(e:Ending)(w':World):Prop:=e= .returned (.int .i64 0)/\FDt w' B f d 0 D' s m (.slice none 0 0) (.map [])/\Below B w w'/\(∀ (g:Nat) (t:TypeId) (cs:Array Value),Blk w g t cs->t≠117->t≠230->g≠s->Blk w' g t cs)/\(∀g es c,g≠m->w.heap[g]? =some (.map es c)->w'.heap[g]? =some (.map es c))
theorem Wv{w:World}{B f d kf t m s m0 n k N:Nat}{Dd:Dk}{free:List Run}{pages:Int}{D:DataW Value}(q:Int->Nat)(hq:∀x,q x<256)(bd:Int->Bs)(h:Txn w t m f n free pages k D)(hF:FAt w B f d kf Dd)(hn:Dd.sure.length=n)
  (hc0:w.cell? ⟨d,0,none⟩=some (.slice (some ⟨s,0,none⟩) n n)) (hc1:w.cell? ⟨d,1,none⟩=some (.map (some m0))) (hmm:m≠m0)
  (hL:Lim Dd N) (hN:N+1000<1000000000000) (hk:k<=1000) (hkf:kf+1000<maxLen) (hT:HT w) (hB0:1<B) (hB:B<=w.heap.size)
  (hD:∀x∈intKeys D,(Lit.int .i64 x).wf=true/\∀z,D.atKey (.int .i64 x) z= .held (content true (q x:Nat) ⟨(bd x).toArray⟩))
  (hE:∀ss:List Int,ss.Perm (intKeys D)->∀j (hj:j<ss.length),(flQ Dd q bd (ss.take j)).jc ss[j] (bd ss[j])=0)
  (hS:∀ss:List Int,ss.Perm (intKeys D)->PN (flQ Dd q bd ss)/\(flQ Dd q bd ss).down=false):
  Calls Tryz.prog 16 #[.pointer (some ⟨t,0,none⟩)] w fun e w'=>∃ss:List Int,ss.Perm (intKeys D)/\Fg B f d s m0 (flQ Dd q bd ss).synced w e w':=by
 have htk:=BA t m f n k free pages D w (by omega) h
 have hsz:=h.map.size_le
 have HD:=Lib.hid hD
 have HE:=Lib.hid hE
 have HS:=Lib.hid hS
 clear hD hE hS
 go_enter Tryz.func16,Tryz.ntmps16
 go_wp2_with fail
 refine Calls.mono htk ?_
 rintro e w1 ⟨A,c,ss,rfl,hpm,hsl,hss,hb1⟩
 have hT1:=h.below hb1
 have hF1:=hF.keep hb1
 have hM1:=cO.below hb1 hF.disk.dlt
 have hbB:=hb1.mono hB
 have hw1:=Nat.le_trans hB hb1.size
 have HPM:=Lib.hid hpm
 clear hpm
 go_wp2
 go_loopw [10] (fun i wr=>∃j:Nat,j<=ss.length/\i= .int .i64 j/\FAt wr B f d (kf+j) (flQ Dd q bd (ss.take j))/\Lim (flQ Dd q bd (ss.take j)) (N+j)/\Txn wr t m f n free pages k D/\Kept w1 wr/\cO d w1 wr/\Below B w1 wr) (fun i _=>ss.length-(intOf i).toNat)
 case atStart=>exact⟨0,by omega,rfl,hF1,hL,hT1,Kept.refl _,cO.refl _ _,Below.refl _ _⟩
 case round=>
  obtain⟨j,hj,rfl,hFr,hLr,hTr,hKr,hMr,hBr⟩:=hrel
  by_cases hlt:j<ss.length
  ·obtain⟨b2,o2,rfl,hb2,g0⟩:=(hss.kept hKr (by decide) (by decide)).ls.int hlt
   obtain⟨hwf,hat⟩:=HD.out _ (HPM.out.mem_iff.1 (List.getElem_mem hlt))
   have hfe:=HE.out ss HPM.out j hlt
   have hsu:=Wu Dd q bd ss j hlt
   have HFL:=Lib.hid (PU q bd (ss.take (j+1)) Dd)
   have hLf:=hLr.dW ss[j] (q ss[j]) (bd ss[j])
   rw[<-hsu]at hLf
   generalize ss[j]=y at*
   have hqy:=hq y
   generalize q y=qy at*
   obtain⟨u,ps,hlook,hu⟩:=hTr.map.lookup qM Tryz.underlying120 (Tryz.zeroValue131 wr) (oH _ _ _) (MR hwf)
   rw[hat]at hu
   obtain⟨b',q',s',rfl,hz⟩:=oI hu
   have hz:=(Prod.mk.inj hz).1
   injection hz with hz
   rw[<-hz]at hlook
   clear hu hz hat
   have abu:=hTr
   obtain⟨_,⟨vf,h2,_⟩,_⟩:=abu
   have hlt2:=h2.lt
   have hc3:=h2.cell 3
   have hcf:=h2.cell 0
   unfold content at hlook
   have hbA:Below wr.heap.size wr (wr.alloc (.cells #[.bool true, .int .u8 (qy:Int), .string ⟨(bd y).toArray⟩] 131)):=(Below.refl _ wr).alloc (Nat.le_refl _) _
   have yX:=Blk.new wr 131 #[.bool true, .int .u8 (qy:Int), .string ⟨(bd y).toArray⟩]
   have hwr:=Nat.le_trans hw1 hBr.size
   have hfw:=fun W (h1:FAt W B f d (kf+j) (flQ Dd q bd (ss.take j))) (h2:HT W) (h3:B<=W.heap.size)=>qQ h1 (hLr.fine (by omega)) (by omega) h2 h3 y qy hqy (bd y)
   rw[hfe, <-hsu]at hfw
   unfold Nl str at hfw
   have HFW:=Lib.hid hfw
   clear hfw hfe
   have hk0:=(h2.alloc (.cells #[.bool true, .int .u8 (qy:Int), .string ⟨(bd y).toArray⟩] 131)).cell 0
   have hk1:=yX.cell 1
   have hk2:=yX.cell 2
   have hFa:=(hFr.keep hbA).dX (w':=(wr.alloc (.cells #[.bool true, .int .u8 (qy:Int), .string ⟨(bd y).toArray⟩] 131)).drew) ⟨fun _ _ _ h _=>h,fun _ _ _ h=>h⟩
   have hTa:HT (wr.alloc (.cells #[.bool true, .int .u8 (qy:Int), .string ⟨(bd y).toArray⟩] 131)).drew:=(((hT.below hbB hB0).below hBr hB0).below (hbA.mono hwr).drew hB0)
   have hBa:B<=(wr.alloc (.cells #[.bool true, .int .u8 (qy:Int), .string ⟨(bd y).toArray⟩] 131)).drew.heap.size:=by have:=hbA.size;exact Nat.le_trans hwr this
   have afW:=hTr.below hbA
   have hKa:=hKr.trans (Kept.below hbA)
   have hMa:=hMr.trans (cO.below hbA hFr.disk.dlt)
   have abv:=hBr.trans (hbA.mono hwr)
   generalize flQ Dd q bd (ss.take j)=Dj at*
   have hcont:=HFW.out _ hFa hTa hBa
   have hKd:Kept w1 (wr.alloc (.cells #[.bool true, .int .u8 (qy:Int), .string ⟨(bd y).toArray⟩] 131)).drew:=hKa
   have hMd:cO d w1 (wr.alloc (.cells #[.bool true, .int .u8 (qy:Int), .string ⟨(bd y).toArray⟩] 131)).drew:=⟨hMa.cell,hMa.oth,hMa.row⟩
   have hBd:=abv.drew
   have hTd:Txn (wr.alloc (.cells #[.bool true, .int .u8 (qy:Int), .string ⟨(bd y).toArray⟩] 131)).drew t m f n free pages k D:=hTr.below hbA.drew
   have abw:=hMd.1.trans (hM1.1.trans hc1)
   have hk0d:(wr.alloc (.cells #[.bool true, .int .u8 (qy:Int), .string ⟨(bd y).toArray⟩] 131)).drew.cell? ⟨t,0,none⟩=some (.pointer (some ⟨f,0,none⟩)):=hk0
   have afX:(wr.alloc (.cells #[.bool true, .int .u8 (qy:Int), .string ⟨(bd y).toArray⟩] 131)).drew.cell? ⟨wr.heap.size,1,none⟩=some (.int .u8 (qy:Int)):=hk1
   have afY:(wr.alloc (.cells #[.bool true, .int .u8 (qy:Int), .string ⟨(bd y).toArray⟩] 131)).drew.cell? ⟨wr.heap.size,2,none⟩=some (.string ⟨(bd y).toArray⟩):=hk2
   go_wp2
   go_region_with (go_at_call 68;refine hcont.mono ?_;rintro e w2 ⟨rfl,gF,gB,gK,gM⟩)
   all_goals go_wp2
   all_goals go_roundw
   all_goals try(simp[intOf];omega)
   all_goals exact⟨j+1,by omega,by go_num,gF,hLf,Txn.keepW (m0:=m0) hTd gK (gM.2 m0 abw) hmm gF (by rw[HFL.out,hn]),hKd.trans gK,hMd.trans gM,hBd.trans gB⟩
  ·obtain rfl:j=ss.length:=by omega
   rw[List.take_of_length_le (Nat.le_refl _)]at hFr hLr
   obtain⟨hW,hdn⟩:=HS.out ss HPM.out
   obtain⟨s',m',pv,Dm,hDA⟩:=hFr.disk
   have hseq:s'=s:=by
    have e1:=hDA.self.cell 0
    have e2:=hMr.row.trans (hM1.row.trans hc0)
    simp only[dZ]at e1
    rw[e2]at e1
    have e3:Value.slice (some ⟨s,0,none⟩) n n=Value.slice (some ⟨s',0,none⟩) (flQ Dd q bd ss).sure.length (flQ Dd q bd ss).sure.length:=by simpa using e1
    injection e3 with e3
    injection e3 with e3
    injection e3 with e3
    exact e3.symm
   subst hseq
   have hmeq:m'=m0:=by
    have e1:=hDA.self.cell 1
    have e2:=hMr.1.trans (hM1.1.trans hc1)
    simp only[dZ]at e1
    rw[e2]at e1
    simpa using e1.symm
   subst hmeq
   have hpl:=hLr.pend
   have hsy:=Jv hDA hW hdn (by omega)
   have hcf:=hFr.self.cell 0
   obtain⟨_,⟨vf,h2,_⟩,_⟩:=id hTr
   have hct:=h2.cell 0
   have hfin:∀e w3,(e= .returned (.int .i64 0)/\DAt w3 B d 0 (flQ Dd q bd ss).synced s' m' (.slice none 0 0) (.map [])/\He d s' m' wr w3)->Fg B f d s' m' (flQ Dd q bd ss).synced w e w3:=by
    rintro e w3 ⟨rfl,gD,gT⟩
    have t1:∀ {g:Nat} {ty:TypeId} {cs:Array Value},Blk wr g ty cs->ty≠117->g≠s'->Blk w3 g ty cs:=fun {g ty cs} hb n1 n2=>
     (gT.block g hb.lt (hb.ne_ hDA.self n1) n2 (fun e=>hDA.mne hb e.symm)).trans hb
    refine⟨rfl,⟨hFr.le,t1 hFr.self (by decide) (hFr.self.ne_ hDA.sure (by decide)),gD⟩,(hbB.trans hBr).trans ⟨gT.os,gT.tape,gT.output,gT.size,fun g hg=> ?_⟩,fun g ty cs hb n1 n2 n3=>t1 (hKr g ty cs (Kept.below hb1 g ty cs hb n1 n2) n1 n2) n1 n3,fun g es c hne hb=> ?_⟩
    ·obtain⟨l1,l2,l3⟩:=hDA.le
     exact gT.block g (by have:=hDA.self.lt;omega) (by omega) (by omega) (by omega)
    ·have b1:w1.heap[g]? =some (.map es c):=(hb1.block g (Array.getElem?_eq_some_iff.1 hb).1).trans hb
     have b2:=hMr.2 m' (hM1.1.trans hc1) g _ b1 rfl hne
     exact(gT.block g (Array.getElem?_eq_some_iff.1 b2).1 (fun e=>by subst e;have:=hDA.self;unfold Blk at this;rw[b2]at this;cases this) (fun e=>by subst e;have:=hDA.sure;unfold Blk at this;rw[b2]at this;cases this) hne).trans b2
   have oh:=Lib.hid (fun e w3 h=>(⟨ss,HPM.out,hfin e w3 h⟩:∃ss:List Int,ss.Perm (intKeys D)/\Fg B f d s' m' (flQ Dd q bd ss).synced w e w3))
   clear hfin
   go_wp2_with fail
   refine Calls.mono hsy ?_
   rintro e w3 hS3
   obtain rfl:=hS3.1
   have hlast:=oh.out _ _ hS3
   clear hS3
   go_wp2
   exact bodyPost_ret (v:= .int .i64 0) (by simp[results,Tryz.f16,go_sem]) rfl hlast
end Go.Proofs.YteppebbmnojapaaGreatDoor
namespace Go.Proofs.YteppebbmnojapaaGreatDoor
open Go.RowKit Go.Shelf
def adA{α:Type}(F:Fence)(n:Nat)(P:Program)(g:Nat)(lb:Array Value)(encs:α->Array Value)(Kp Ab:World->World->Prop)(G S Sp:List α->World->Prop)(N:Nat)(w:World):Prop:=
 ∀ (l:Nat) (J Jx:List α->World->Prop) (W:World),Below w.heap.size w W->(∀s A B,J s A->Ab A B->J s B)->(∀s A B,Jx s A->Ab A B->Jx s B)->
  (∀pre x W1,J pre W1->pre.length<N->G (pre++ [x]) W1->YieldAt F (n-1) P l (encs x) W1 fun e W'=>
   (e= .returned (.bool true)/\J (pre++ [x]) W'/\Kp W1 W')\/(e= .returned (.bool false)/\Jx (pre++ [x]) W'/\Kp W1 W'))->
  J [] W->
  CallsIn F n P g (#[.func (.yield l) #[] #[]]++lb) W fun e W'=>(∃v,e= .returned v)/\((∃xs,S xs W'/\J xs W')\/(∃pre,Sp pre W'/\Jx pre W'))
def adB{α:Type}(B:Nat)(Kp:World->World->Prop)(I:List α->World->Prop)(Ix:Code->List α->World->Prop)(xs:List α)(W:World):Exit->Act->World->Prop
 | .normal,_,W'=>KeepsFrom B W W'/\Kp W W'/\I xs W'
 | .ret,_,W'=>KeepsFrom B W W'/\Kp W W'/\Ix .ret xs W'
 | .exit id,_,W'=>KeepsFrom B W W'/\Kp W W'/\Ix (.exit id) xs W'
 | .goto t,_,W'=>KeepsFrom B W W'/\Kp W W'/\Ix (.goto t) xs W'
 | .panic _,_,_=>False
 | .outgrown,_,_=>False
def aaD{β:Type}(B:Nat)(S:β->World->Prop):Prop:=∀s W l o o',S s W->B<=l->W.heap[l]? =some o->o.isCells=false->o.isWalk=false->S s (W.putObj l o')
theorem yg{F:Fence}{n:Nat}{P:Program}{w:World}{α:Type}{g:Operand}{ps:Array Tmp}{assign body:Code}{Q:Exit->Act->World->Prop}{a:Act}
  (hro:F.round=none) (h1:1<=n) {gf:Nat} {lb:Array Value} (hg:a.eval g= .func (.func gf) #[] lb) (hFg:F.fn gf) (eg:∀args w,(callFunc gf args).run P w= .ok (.enter gf args) w)
  {encs:α->Array Value} {Kp Ab:World->World->Prop} {G S Sp:List α->World->Prop} {N:Nat} (hseq:adA F (n-1) P gf lb encs Kp Ab G S Sp N w)
  (hKt:∀ {A B C:World},Kp A B->Kp B C->Kp A C) (hKb:∀ (W:World) (l:Nat) (o o':Obj),w.heap.size<=l->W.heap[l]? =some o->o.isCells=false->o.isWalk=false->Kp W (W.putObj l o'))
  (hAb:∀ (A B:World) (k:Nat) (o:Obj),Ab A B->A.heap[k]? =some o->o.isCells=false->o.isWalk=false->B.heap[k]? =some o)
  (hps:∀x,(encs x).size=ps.size)
  (I:List α->World->Prop) (Ix:Code->List α->World->Prop) (hI:OwnFrom w.heap.size I) (hIx:∀c,OwnFrom w.heap.size (Ix c)) (hIA:∀s A B,I s A->Ab A B->I s B) (afZ:∀c s A B,Ix c s A->Ab A B->Ix c s B)
  (hS:aaD w.heap.size S) (hSp:aaD w.heap.size Sp)
  (h0:I [] w) (Ax:List α->Act->World->Prop) (hAx:∀a',OwnFrom w.heap.size (fun s W=>Ax s a' W))
  (hassign:∀ (l:Nat) (pre:List α) (x:α) (W:World) (K:Act->World->Prop),I pre W->G (pre++ [x]) W->(∀a' W',KeepsFrom w.heap.size W W'->Kp W W'->I pre W'->Ax (pre++ [x]) a' W'->K a' W')->
   assign.wpIn (F.inRound l) (n-1-1) P (Exit.then K (fun _ _ _=>False)) { tmps:=(ps.zip (encs x)).foldl (fun t (p,v)=>t.setIfInBounds p v) a.tmps,defers:= [] } W)
  (hbody:∀ (l:Nat) (pre:List α) (x:α) (a':Act) (W:World),w.heap.size<=l->I pre W->Ax (pre++ [x]) a' W->pre.length<N->body.wpIn (F.inRound l) (n-1-1) P (adB w.heap.size Kp I Ix (pre++ [x]) W) a' W)
  (hdone:∀ (D:Nat) (xs:List α) (W:World),w.heap.size<=D->S xs W->I xs W->W.heap[D]? =some (.deferred (some []))->Q .normal { a with defers:= { target:= .collected D,args:= #[] } ::a.defers } W)
  (hstop:∀ (D:Nat) (c:Code) (pre:List α) (W:World),w.heap.size<=D->Sp pre W->Ix c pre W->W.heap[D]? =some (.deferred (some []))->c.wpIn F n P Q { a with defers:= { target:= .collected D,args:= #[] } ::a.defers } W):
  (Code.rangeFunc g ps assign body).wpIn F n P Q a w:=by
 refine wpIn_rangeFunc ?_
 intro fn hfn
 rw[hro]
 obtain⟨rec,hrec⟩:∃rec:LoopState->Option Code->Loop,rec=fun st pe=> { state:=st,pending:=pe,fn,tmps:=a.tmps,params:=ps,assign,body,defers:=w.heap.size } :=⟨_,rfl⟩
 obtain⟨W1,hW1⟩:∃W1,(w.alloc (.deferred (some []))).alloc (.loop (rec .ready none))=W1:=⟨_,rfl⟩
 have hL1:W1.heap[w.heap.size+1]? =some (.loop (rec .ready none)):=by
  rw[<-hW1];have:=World.alloc_heap_new (w.alloc (.deferred (some []))) (.loop (rec .ready none));rwa [World.size_alloc]at this
 have hK1:W1.heap[w.heap.size]? =some (.deferred (some [])):=by
  rw[<-hW1];exact(Below.heap_alloc _ _ _ (by simp)).trans (World.alloc_heap_new w _)
 have hI1:I [] W1:=by rw[<-hW1];exact hI.alloc _ (hI.alloc _ h0)
 have hb1:Below w.heap.size w W1:=by
  rw[<-hW1];exact((Below.refl _ w).alloc (Nat.le_refl _) _).alloc (by simp) _
 refine⟨w.heap.size+1, [{ target:= .collected w.heap.size,args:= #[] }],W1, { target:= .fn (.func gf) lb,args:= #[.func (.yield (w.heap.size+1)) #[] #[]] },W1,gf,
  #[.func (.yield (w.heap.size+1)) #[] #[]]++lb,W1, ?_, ?_, ?_, ?_,fun _=>h1, ?_⟩
 ·rw[<-hW1,hrec];exact run_enterLoop_outer _ _ _ _ _
 ·simp only[resolve,hg]
  simp[go_sem]
 ·intro f' hf';simp[Target.leads]at hf';subst hf';exact hFg
 ·simp[invoke,go_sem,eg]
 ·refine(hseq (w.heap.size+1)
   (fun pre W=>I pre W/\W.heap[w.heap.size+1]? =some (.loop (rec .ready none))/\W.heap[w.heap.size]? =some (.deferred (some [])))
   (fun pre W=>∃c,Ix c pre W/\W.heap[w.heap.size+1]? =some (.loop (rec .done (some c)))/\W.heap[w.heap.size]? =some (.deferred (some [])))
   W1 hb1
   (fun s A B hs hg'=>⟨hIA s A B hs.1 hg',hAb A B _ _ hg' hs.2.1 rfl rfl,hAb A B _ _ hg' hs.2.2 rfl rfl⟩)
   (fun s A B hs hg'=>by
    obtain⟨c,hc,hl,hk⟩:=hs
    exact⟨c,afZ c s A B hc hg',hAb A B _ _ hg' hl rfl rfl,hAb A B _ _ hg' hk rfl rfl⟩)
   ?_ ⟨hI1,hL1,hK1⟩).mono ?_
  ·rintro pre x W ⟨hi,hl,hk⟩ hlen hG
   have hlt:w.heap.size+1<W.heap.size:=(Array.getElem?_eq_some_iff.1 hl).1
   have hy:=run_yield (P:=P) (args:=encs x) hl (by rw[hrec];exact hps x)
   rw[hrec]at hy
   refine⟨fn,_,assign,body,hy,roundIn_of_wpIn hfn (hassign _ pre x W _ hi hG ?_)⟩
   clear hy
   intro a' Wa hkfa hkpa hia hax
   replace hl:=hkfa.same _ _ (by omega) hl rfl
   replace hk:=hkfa.same _ _ (Nat.le_refl _) hk rfl
   replace hlt:w.heap.size+1<Wa.heap.size:=(Array.getElem?_eq_some_iff.1 hl).1
   replace hi:=hia
   clear hia hG
   revert hkpa hkfa
   generalize W=Wb
   intro hkfa hkpa
   obtain⟨W,rfl⟩:∃W,W=Wa:=⟨_,rfl⟩
   refine⟨_,run_beginRound hl (by rw[hrec]), ?_⟩
   have hl2:(W.putObj (w.heap.size+1) (.loop { rec .ready none with state:= .busy })).heap[w.heap.size+1]? =some (.loop { rec .ready none with state:= .busy }):=World.putObj_heap_same hlt
   have hk2:(W.putObj (w.heap.size+1) (.loop { rec .ready none with state:= .busy })).heap[w.heap.size]? =some (.deferred (some [])):=(World.putObj_heap_other (by omega)).trans hk
   have hw2:Kp W (W.putObj (w.heap.size+1) (.loop { rec .ready none with state:= .busy })):=hKb _ _ _ _ (by omega) hl rfl rfl
   refine wpIn_mono (hbody _ pre x a' _ (by omega) (hI.putObj _ hi (by omega) hl rfl) ((hAx a').putObj _ hax (by omega) hl rfl) hlen) ?_
   have fin:∀ (jump:Option Code) (W3:World),KeepsFrom w.heap.size (W.putObj (w.heap.size+1) (.loop { rec .ready none with state:= .busy })) W3->
     (Instr.endRound (w.heap.size+1) jump).run P W3= .ok (.bool jump.isNone) (W3.putObj (w.heap.size+1) (.loop (rec (if jump.isNone then .ready else .done) jump)))/\
     W3.heap[w.heap.size+1]? =some (.loop { rec .ready none with state:= .busy })/\
     (W3.putObj (w.heap.size+1) (.loop (rec (if jump.isNone then .ready else .done) jump))).heap[w.heap.size+1]? =some (.loop (rec (if jump.isNone then .ready else .done) jump))/\
     (W3.putObj (w.heap.size+1) (.loop (rec (if jump.isNone then .ready else .done) jump))).heap[w.heap.size]? =some (.deferred (some [])):=fun jump W3 hk3=>by
    have hl3:=hk3.same _ _ (by omega) hl2 rfl
    have:=run_endRound (P:=P) jump hl3
    rw[hrec]at this ⊢
    exact⟨this,by rw[hrec]at hl3;exact hl3,World.putObj_heap_same (Array.getElem?_eq_some_iff.1 hl3).1,(World.putObj_heap_other (by omega)).trans (hk3.same _ _ (Nat.le_refl _) hk2 rfl)⟩
   rintro e a3 W3 hp
   cases e with
   |normal=>
    obtain⟨hk3,hkp3,hi3⟩:=hp
    obtain⟨hr,hl3,hl4,hk4⟩:=fin none W3 hk3
    exact⟨_,_,hr, .inl ⟨rfl,⟨hI.putObj _ hi3 (by omega) hl3 rfl,hl4,hk4⟩,hKt hkpa (hKt (hKt hw2 hkp3) (hKb _ _ _ _ (by omega) hl3 rfl rfl))⟩⟩
   |ret=>
    obtain⟨hk3,hkp3,hi3⟩:=hp
    obtain⟨hr,hl3,hl4,hk4⟩:=fin (some .ret) W3 hk3
    exact⟨_,_,hr, .inr ⟨rfl,⟨.ret,(hIx _).putObj _ hi3 (by omega) hl3 rfl,hl4,hk4⟩,hKt hkpa (hKt (hKt hw2 hkp3) (hKb _ _ _ _ (by omega) hl3 rfl rfl))⟩⟩
   |exit id=>
    obtain⟨hk3,hkp3,hi3⟩:=hp
    obtain⟨hr,hl3,hl4,hk4⟩:=fin (some (.exit id)) W3 hk3
    exact⟨_,_,hr, .inr ⟨rfl,⟨.exit id,(hIx _).putObj _ hi3 (by omega) hl3 rfl,hl4,hk4⟩,hKt hkpa (hKt (hKt hw2 hkp3) (hKb _ _ _ _ (by omega) hl3 rfl rfl))⟩⟩
   |goto t=>
    obtain⟨hk3,hkp3,hi3⟩:=hp
    obtain⟨hr,hl3,hl4,hk4⟩:=fin (some (.goto t)) W3 hk3
    exact⟨_,_,hr, .inr ⟨rfl,⟨.goto t,(hIx _).putObj _ hi3 (by omega) hl3 rfl,hl4,hk4⟩,hKt hkpa (hKt (hKt hw2 hkp3) (hKb _ _ _ _ (by omega) hl3 rfl rfl))⟩⟩
   |panic ch=>exact hp.elim
   |outgrown=>exact hp.elim
  ·rintro e W2 ⟨⟨v,rfl⟩,(⟨xs,hs,hi,hl,hk⟩ | ⟨pre,hsp,c,hi,hl,hk⟩)⟩
   ·exact⟨none,_,by have:=run_endLoop (P:=P) hl (by rw[hrec];simp);rw[hrec]at this;exact this,hdone _ xs _ (Nat.le_refl _) (hS _ _ _ _ _ hs (by omega) hl rfl rfl) (hI.putObj _ hi (by omega) hl rfl) ((World.putObj_heap_other (by omega)).trans hk)⟩
   ·exact⟨some c,_,by have:=run_endLoop (P:=P) hl (by rw[hrec];simp);rw[hrec]at this;exact this,hstop _ c pre _ (Nat.le_refl _) (hSp _ _ _ _ _ hsp (by omega) hl rfl rfl) ((hIx c).putObj _ hi (by omega) hl rfl) ((World.putObj_heap_other (by omega)).trans hk)⟩
section
variable {F:Fence}{n:Nat}{P:Program}{ops:Array Oper}{Q:Exit->Act->World->Prop}{md:Region.Mode}
theorem iO{L:Array Bool}{i:Nat}(h:i∈Region.ready md ops L):i<ops.size/\L.getD i true=false/\∀o,ops[i]? =some o->∀e∈o.after.toList,Region.binds md e=true->L.getD e.on false=true:=by
 unfold Region.ready at h
 rw[List.mem_filter]at h
 obtain⟨h1,h2⟩:=h
 rw[Bool.and_eq_true]at h2
 refine⟨List.mem_range.1 h1,by simpa using h2.1,fun o ho e he hb=> ?_⟩
 have h3:=h2.2
 rw[ho]at h3
 simp only[Option.map_some,Option.getD_some]at h3
 rw[Array.all_eq_true']at h3
 have h4:=h3 e (Array.mem_toList_iff.1 he)
 rw[hb]at h4
 simpa using h4
theorem sV{L:Array Bool}(h:Region.ready md ops L= [])(hs:L.size=ops.size)(hlow:((List.range ops.size).all fun i=>((ops[i]?).map fun o=>o.after.toList.all fun e=> !Region.binds md e||decide (e.on<i)).getD true)=true):∀i,i<ops.size->L.getD i false=true:=by
 intro i
 induction i using Nat.strongRecOn with
 |_ i ih=>
  intro hi
  cases hb:L.getD i false with
  |true=>rfl
  |false=>
   have hL:i<L.size:=by omega
   have hb':L[i]=false:=by simpa[Array.getD,hL]using hb
   have hmem:i∈Region.ready md ops L:=by
    unfold Region.ready
    rw[List.mem_filter]
    refine⟨List.mem_range.2 hi, ?_⟩
    rw[Bool.and_eq_true]
    refine⟨by simp[Array.getD,hL,hb'], ?_⟩
    have hl:=List.all_eq_true.1 hlow i (List.mem_range.2 hi)
    rw[Array.getElem?_eq_getElem hi]at hl ⊢
    simp only[Option.map_some,Option.getD_some]at hl ⊢
    rw[List.all_eq_true]at hl
    rw[Array.all_eq_true']
    intro e he
    have h1:=hl e (Array.mem_toList_iff.2 he)
    rw[Bool.or_eq_true]at h1 ⊢
    rcases h1 with h1 | h1
    ·exact .inl h1
    ·have h1:=of_decide_eq_true h1
     exact .inr (ih e.on h1 (by omega))
   rw[h]at hmem
   cases hmem
theorem JE(Inv:Array Bool->Act->World->Prop)
  (hdone:∀L a w,Inv L a w->(Region.ready md ops L= [])->Q .normal a w)
  (hstep:∀L a w i,Inv L a w->i∈Region.ready md ops L->wpOpIn F n P ops Q i (fun a' w'=>Inv (L.setIfInBounds i true) a' w') a w):
  ∀fuel L a w,Inv L a w->L.size=ops.size->L.toList.count false<=fuel->wpAnyIn F n P md ops Q fuel L a w:=by
 intro fuel
 induction fuel with
 |zero=>
  intro L a w hI hs hc
  have hr:Region.ready md ops L= []:=by
   cases hr:Region.ready md ops L with
   |nil=>rfl
   |cons i r=>
    have hm:=iO (md:=md) (ops:=ops) (L:=L) (i:=i) (by rw[hr];exact List.mem_cons_self ..)
    have hL:i<L.size:=by omega
    have h2:=hm.2.1
    have h3:L[i]=false:=by simpa[Array.getD,hL]using h2
    have h4:L.toList.count false=0:=by omega
    rw[List.count_eq_zero]at h4
    exact absurd (by rw[<-h3];exact Array.mem_toList_iff.2 (Array.getElem_mem hL)) h4
  exact⟨hr,hdone L a w hI hr⟩
 |succ fuel ih=>
  intro L a w hI hs hc
  refine⟨hdone L a w hI,fun i hi=> ?_⟩
  have hm:=iO hi
  have hL:i<L.size:=by omega
  have h3:L[i]=false:=by simpa[Array.getD,hL]using hm.2.1
  refine wpOpIn_mono (fun a' w' h=>ih _ a' w' h (by simp[hs]) ?_) (hstep L a w i hI hi)
  have h5:(L.setIfInBounds i true).toList=L.toList.set i true:=by simp
  rw[h5,List.count_set (by simpa using hL)]
  have h6:L.toList[i]'(by simpa using hL)=false:=by simpa using h3
  rw[h6]
  have h7:0<L.toList.count false:=List.count_pos_iff.2 (by rw[<-h3];exact Array.mem_toList_iff.2 (Array.getElem_mem hL))
  simp
  simp at hc h7
  omega
end
theorem jJ{n l:Nat}{P:Program}{ops:Array Oper}{Q:Exit->Act->World->Prop}{i:Nat}{o:Oper}{a:Act}{w w':World}{v:Value}{K:Act->World->Prop}(ho:ops[i]? =some o)(hg:o.guard=none)(hd:∀c,o.op≠ .defer c)
  (hrun:(execOp a.eval o).run P w= .ok (.value v) w') (hK:K (a.put o.dst v) w'):wpOpIn (Fence.wide.inRound l) n P ops Q i K a w:=by
 unfold wpOpIn
 rw[ho]
 simp only
 rw[if_pos (by simp[Region.wanted,hg])]
 refine⟨fun _ _=>trivial, ?_⟩
 rw[Oper.semAt_eq _ _ _ hd,hrun]
 exact hK
theorem Fh{n l:Nat}{P:Program}{ops:Array Oper}{Q:Exit->Act->World->Prop}{i:Nat}{o:Oper}{a:Act}{w w':World}{K:Act->World->Prop}(ho:ops[i]? =some o)(hg:o.guard=none)(hd:∀c,o.op≠ .defer c)
  (hrun:(execOp a.eval o).run P w= .ok .skip w') (hK:K (a.put o.dst undef) w'):wpOpIn (Fence.wide.inRound l) n P ops Q i K a w:=by
 unfold wpOpIn
 rw[ho]
 simp only
 rw[if_pos (by simp[Region.wanted,hg])]
 refine⟨fun _ _=>trivial, ?_⟩
 rw[Oper.semAt_eq _ _ _ hd,hrun]
 exact hK
theorem lV(a:Act)(d:Nat)(v:Value)(h:d<a.tmps.size):(a.put (some d) v).eval (.tmp d)=v:=by
 simp[Act.put,Act.eval,h]
theorem ay(a:Act)(d e:Nat)(v:Value)(h:d≠e):(a.put (some d) v).eval (.tmp e)=a.eval (.tmp e):=by
 simp[Act.put,Act.eval,h]
theorem iJ(a:Act)(d:Option Tmp)(v:Value):(a.put d v).tmps.size=a.tmps.size:=by
 cases d<;>simp[Act.put]
theorem qX{L:Array Bool}{i:Nat}(h:i<L.size):(L.setIfInBounds i true).getD i false=true:=by simp[Array.getD,h]
theorem iU{L:Array Bool}{i j:Nat}(h:i≠j):(L.setIfInBounds i true).getD j false=L.getD j false:=by
 simp[Array.getD]
 split<;>simp_all
structure Is(base:Nat) where
 own:Option Nat
 p:Value->World->Prop
 up:∀v W W' S,p v W->Fr S W W'->(∀k,S k->k<base/\own≠some k)->p v W'
def Is.any(base:Nat):Is base:=⟨none,fun _ _=>True,fun _ _ _ _ _ _ _=>trivial⟩
def Is.eq(base:Nat)(v:Value):Is base:=⟨none,fun x _=>x=v,fun _ _ _ _ h _ _=>h⟩
def Is.blk(base:Nat)(ty:TypeId)(n:Nat)(cs:Array Value):Is base:=⟨none,fun v W=>∃b,base<=b/\v= .slice (some ⟨b,0,none⟩) n n/\Blk W b ty cs,fun _ _ _ _ ⟨b,h0,h1,h2⟩ hf hS=>⟨b,h0,h1,hf.blk h2 (fun a=>by have:=hS b a;omega)⟩⟩
def Is.row(base:Nat){α:Type}(E:Enc α)(ty:TypeId)(l:List α):Is base:=⟨none,fun v W=>LO E ty W base v l/\∃A c,v= .slice A l.length c,fun _ _ _ _ h hf hS=>⟨LO.fr' h.1 hf (fun k a=>(hS k a).1),h.2⟩⟩
def Is.node(base:Nat)(n:Nd.Node):Is base:=⟨none,fun v W=>NF base W v n,fun _ _ _ _ h hf hS=>h.fr hf (fun k a=>(hS k a).1)⟩
def Is.put(base g:Nat)(n:Nd.Node):Is base:=⟨some g,fun _ W=>∃cs,NF base W (.agg cs) n/\Blk W g 146 cs,fun _ _ _ _ ⟨cs,h1,h2⟩ hf hS=>⟨cs,h1.fr hf (fun k a=>(hS k a).1),hf.blk h2 (fun a=>(hS g a).2 rfl)⟩⟩
def Does(o:Oper)(a:Act)(W:World)(R:Value->World->Prop):Prop:=
 (∃v w',(execOp a.eval o).run Tryz.prog W= .ok (.value v) w'/\R v w')\/(∃w',(execOp a.eval o).run Tryz.prog W= .ok .skip w'/\R undef w')\/(∃f args,(execOp a.eval o).run Tryz.prog W= .ok (.enter f args) W/\Calls Tryz.prog f args W fun e w'=>∃v,e= .returned v/\R v w')
theorem Does.wp{o:Oper}{a:Act}{W:World}{R:Value->World->Prop}{K:Act->World->Prop}{Q:Exit->Act->World->Prop}(h:Does o a W R)(hK:∀v w',R v w'->K (a.put o.dst v) w'):o.wp Tryz.prog a W K Q:=by
 unfold Oper.wp
 rcases h with⟨v,w',hr,h⟩ | ⟨w',hr,h⟩ | ⟨f,args,hr,h⟩
 ·rw[hr,Oper.upon_value];exact hK v w' h
 ·rw[hr,Oper.upon_skip];exact hK _ w' h
 ·rw[hr,Oper.upon_enter]
  refine Calls.mono h ?_
  rintro e w' ⟨v,rfl,h⟩
  exact hK v w' h
def depOn(ops:Array Oper)(i j:Nat):Bool:=((ops[i]?).map fun o=>o.after.toList.any fun e=>Region.binds .any e&&e.on==j).getD false
abbrev iP {base:Nat} (Vs:List (Is base)) (i:Nat):Is base:=Vs.getD i (Is.any base)
def Hq{base:Nat}(Vs:List (Is base))(k:Nat):Prop:=∃i,(iP Vs i).own=some k
theorem oW{base:Nat}{Vs:List (Is base)}{k:Nat}(h:Hq Vs k):k∈Vs.filterMap (·.own):=by
 obtain⟨i,h⟩:=h
 rw[List.mem_filterMap]
 unfold iP at h
 rw[List.getD_eq_getElem?_getD]at h
 cases hg:Vs[i]? with
 |none=>rw[hg]at h;simp[Is.any]at h
 |some x=>rw[hg]at h;exact⟨x,List.mem_of_getElem? hg,h⟩
theorem wO{base:Nat} :∀ {Vs:List (Is base)},(Vs.filterMap (·.own)).Nodup->∀ {i j k},(iP Vs i).own=some k->(iP Vs j).own=some k->i=j
 | [],_,i,j,k,h,_=>by simp[iP,Is.any]at h
 |V::Vs,hn,i,j,k,h1,h2=>by
  have hmem:∀ {i:Nat},(iP Vs i).own=some k->k∈Vs.filterMap (·.own):=fun {i} h=>by
   rw[List.mem_filterMap]
   unfold iP at h
   rw[List.getD_eq_getElem?_getD]at h
   cases hg:Vs[i]? with
   |none=>rw[hg]at h;simp[Is.any]at h
   |some x=>rw[hg]at h;exact⟨x,List.mem_of_getElem? hg,h⟩
  cases i with
  |zero=>
   cases j with
   |zero=>rfl
   |succ j=>
    have h1':V.own=some k:=h1
    have h2':(iP Vs j).own=some k:=h2
    rw[List.filterMap_cons_some h1',List.nodup_cons]at hn
    exact absurd (hmem h2') hn.1
  |succ i=>
   have h1':(iP Vs i).own=some k:=h1
   cases j with
   |zero=>
    have h2':V.own=some k:=h2
    rw[List.filterMap_cons_some h2',List.nodup_cons]at hn
    exact absurd (hmem h1') hn.1
   |succ j=>
    have h2':(iP Vs j).own=some k:=h2
    have hn':(Vs.filterMap (·.own)).Nodup:=by
     cases hV:V.own with
     |none=>rwa [List.filterMap_cons_none hV]at hn
     |some x=>rw[List.filterMap_cons_some hV,List.nodup_cons]at hn;exact hn.2
    rw[wO hn' h1' h2']
structure PV{base:Nat}(mk:(Nat->Value)->Act)(Vs:List (Is base))(ops:Array Oper)(w:World)(L:Array Bool)(a:Act)(W:World):Prop where
 sz:L.size=ops.size
 fr:Fr (Hq Vs) w W
 old:∀i k,(iP Vs i).own=some k->L.getD i false=false->W.heap[k]? =w.heap[k]?
 closed:∀j i,L.getD j false=true->depOn ops j i=true->L.getD i false=true
 act:∃u,a=mk u/\∀i,i<ops.size->L.getD i false=true->(iP Vs i).p (u i) W
abbrev JF {base:Nat} (mk:(Nat->Value)->Act) (Vs:List (Is base)) (i:Nat) (o:Oper) (u:Nat->Value) (W:World):Prop:=
 Does o (mk u) W (fun v W'=>(mk u).put o.dst v=mk (fun j=>if j=i then v else u j)/\(iP Vs i).p v W'/\Fr (fun k=>(iP Vs i).own=some k) W W')
section
variable {base:Nat}{Q:Exit->Act->World->Prop}{ops:Array Oper}{w:World}
theorem NK{md:Region.Mode}(mk:(Nat->Value)->Act)(Vs:List (Is base))(hmd:md= .any)
  (hlow:((List.range ops.size).all fun i=>((ops[i]?).map fun o=>o.after.toList.all fun e=> !Region.binds .any e||decide (e.on<i)).getD true)=true)
  (hgd:ops.toList.all (fun o=>o.guard.isNone)=true) (hbw:base<=w.heap.size) (hown:∀k,Hq Vs k->k<base) (hnd:(Vs.filterMap (·.own)).Nodup)
  (hstep:∀i o,ops[i]? =some o->∀u W,Fr (Hq Vs) w W->(∀j k,(iP Vs j).own=some k->(j=i\/depOn ops j i=true)->W.heap[k]? =w.heap[k]?)->(∀j,depOn ops i j=true->(iP Vs j).p (u j) W)->JF mk Vs i o u W)
  (hend:∀u W,Fr (Hq Vs) w W->(∀i,i<ops.size->(iP Vs i).p (u i) W)->Q .normal (mk u) W):
  ∀fuel L a W,PV mk Vs ops w L a W->L.toList.count false<=fuel->wpAny Tryz.prog md ops Q fuel L a W:=by
 subst hmd
 have hdone:∀L a W,PV mk Vs ops w L a W->Region.ready .any ops L= []->Q .normal a W:=by
  rintro L a W ⟨hs,hb,_,_,u,rfl,hu⟩ hr
  have hall:=sV hr hs hlow
  exact hend u W hb (fun i hi=>hu i hi (hall i hi))
 intro fuel
 induction fuel with
 |zero=>
  intro L a W hI hc
  have hr:Region.ready .any ops L= []:=by
   cases hr:Region.ready .any ops L with
   |nil=>rfl
   |cons i r=>
    have hm:=iO (md:= .any) (ops:=ops) (L:=L) (i:=i) (by rw[hr];exact List.mem_cons_self ..)
    have hL:i<L.size:=by have:=hI.sz;omega
    have h2:=hm.2.1
    have h3:L[i]=false:=by simpa[Array.getD,hL]using h2
    have h4:L.toList.count false=0:=by omega
    rw[List.count_eq_zero]at h4
    exact absurd (by rw[<-h3];exact Array.mem_toList_iff.2 (Array.getElem_mem hL)) h4
  exact⟨hr,hdone L a W hI hr⟩
 |succ fuel ih=>
  intro L a W hI hc
  refine⟨hdone L a W hI,fun i hi=> ?_⟩
  have hm:=iO hi
  have hL:i<L.size:=by have:=hI.sz;omega
  have h3:L[i]=false:=by simpa[Array.getD,hL]using hm.2.1
  have hcnt:(L.setIfInBounds i true).toList.count false<=fuel:=by
   have h5:(L.setIfInBounds i true).toList=L.toList.set i true:=by simp
   rw[h5,List.count_set (by simpa using hL)]
   have h6:L.toList[i]'(by simpa using hL)=false:=by simpa using h3
   rw[h6]
   have h7:0<L.toList.count false:=List.count_pos_iff.2 (by rw[<-h3];exact Array.mem_toList_iff.2 (Array.getElem_mem hL))
   simp
   simp at hc h7
   omega
  obtain⟨hs,hb,hol,hcl,u,rfl,hu⟩:=hI
  obtain⟨o,ho⟩:∃o,ops[i]? =some o:=⟨_,Array.getElem?_eq_getElem hm.1⟩
  have hg:o.guard=none:=by
   have:=List.all_eq_true.1 hgd o (Array.mem_toList_iff.2 (Array.mem_of_getElem? ho))
   simpa using this
  have aj:∀j,depOn ops i j=true->(iP Vs j).p (u j) W:=by
   intro j hj
   unfold depOn at hj
   rw[ho]at hj
   simp only[Option.map_some,Option.getD_some,List.any_eq_true,Bool.and_eq_true,beq_iff_eq]at hj
   obtain⟨e,he,hbd,rfl⟩:=hj
   have h1:=hm.2.2 o ho e he hbd
   refine hu e.on ?_ h1
   have h2:e.on<L.size:=by
    by_cases h:e.on<L.size
    ·exact h
    ·simp[Array.getD,h]at h1
   omega
  have hd:=hstep i o ho u W hb (fun j k hk hj=>hol j k hk (by
   rcases hj with rfl | hj
   ·simpa[Array.getD,hL]using h3
   ·cases hl:L.getD j false with
    |false=>rfl
    |true=>
     have:=hcl j i hl hj
     simp[Array.getD,hL,h3]at this)) aj
  unfold wpOp
  rw[ho]
  simp only
  rw[if_pos (by simp[Region.wanted,hg])]
  refine .inl (hd.wp ?_)
  rintro v W' ⟨e1,hv,hb'⟩
  rw[e1]
  refine ih _ _ _ ⟨by simp[hs],hb.trans (hb'.more fun k hk=>⟨i,hk⟩), ?_, ?_,_,rfl, ?_⟩ hcnt
  ·intro j k hk hlj
   have hji:j≠i:=fun e=>by subst e;rw[qX hL]at hlj;cases hlj
   rw[iU (Ne.symm hji)]at hlj
   have h1:=hown k ⟨j,hk⟩
   have h2:=hb.size
   rw[hb'.block k (by omega) (fun hk2=>hji (wO hnd hk hk2))]
   exact hol j k hk hlj
  ·intro j i' hj hd2
   by_cases hji:i=j
   ·subst hji
    unfold depOn at hd2
    rw[ho]at hd2
    simp only[Option.map_some,Option.getD_some,List.any_eq_true,Bool.and_eq_true,beq_iff_eq]at hd2
    obtain⟨e,he,hbd,rfl⟩:=hd2
    have h1:=hm.2.2 o ho e he hbd
    by_cases h2:i=e.on
    ·rw[<-h2];exact qX hL
    ·rw[iU h2]
     by_cases h:e.on<L.size
     ·simpa[Array.getD,h]using h1
     ·simp[Array.getD,h]at h1
   ·rw[iU hji]at hj
    have h1:=hcl j i' hj hd2
    by_cases h2:i=i'
    ·rw[<-h2];exact qX hL
    ·rw[iU h2];exact h1
  intro j hj hlj
  by_cases hji:j=i
  ·subst hji;rw[if_pos rfl];exact hv
  ·rw[if_neg hji]
   rw[iU (Ne.symm hji)]at hlj
   exact(iP Vs j).up _ _ _ _ (hu j hj hlj) hb' (fun k hk=>⟨hown k ⟨i,hk⟩,fun hk2=>hji (wO hnd hk2 hk)⟩)
theorem zO{id:Nat}{a:Act}(mk:(Nat->Value)->Act)(Vs:List (Is base))
  (hm:Tryz.prog.follows .mixedOrders=true)
  (hlow:((List.range ops.size).all fun i=>((ops[i]?).map fun o=>o.after.toList.all fun e=> !Region.binds .any e||decide (e.on<i)).getD true)=true)
  (hgd:ops.toList.all (fun o=>o.guard.isNone)=true) (L:List Nat) (hL:Vs.filterMap (·.own)=L) (hbw:base<=w.heap.size) (hown:∀k∈L,k<base) (hnd:L.Nodup)
  (ha:∃u,a=mk u)
  (hstep:∀i o,ops[i]? =some o->∀u W,Fr (fun k=>k∈L) w W->(∀j k,(iP Vs j).own=some k->(j=i\/depOn ops j i=true)->W.heap[k]? =w.heap[k]?)->(∀j,depOn ops i j=true->(iP Vs j).p (u j) W)->JF mk Vs i o u W)
  (hend:∀u W,Fr (fun k=>k∈L) w W->(∀i,i<ops.size->(iP Vs i).p (u i) W)->Q .normal (mk u) W):(Code.region id ops true).wp Tryz.prog Q a w:=by
 subst hL
 refine wp_region_any hm (NK (w:=w) mk Vs rfl hlow hgd hbw (fun k hk=>hown k (oW hk)) hnd (fun i o ho u W hf=>hstep i o ho u W (hf.more fun _=>oW)) (fun u W hf=>hend u W (hf.more fun _=>oW)) _ _ _ _ ⟨by simp, .of_below (Below.refl w.heap.size w).drew,fun _ _ _ _=>rfl, ?_, ?_⟩ ?_)
 ·intro j i hj
  by_cases h:j<ops.size<;>simp[Array.getD,h]at hj
 ·obtain⟨u,rfl⟩:=ha
  exact⟨u,rfl,fun i hi h=>by simp[Array.getD,hi]at h⟩
 ·simp
theorem bY{id:Nat}{a:Act}(mk:(Nat->Value)->Act)(Vs:List (Is base))
  (hm:Tryz.prog.follows .mixedOrders=true)
  (hlow:((List.range ops.size).all fun i=>((ops[i]?).map fun o=>o.after.toList.all fun e=> !Region.binds .any e||decide (e.on<i)).getD true)=true)
  (hgd:ops.toList.all (fun o=>o.guard.isNone)=true) (L:List Nat) (hL:Vs.filterMap (·.own)=L) (hbw:base<=w.heap.size) (hown:∀k∈L,k<base) (hnd:L.Nodup)
  (ha:∃u,a=mk u)
  (hstep:∀i o,ops[i]? =some o->∀u W,Fr (fun k=>k∈L) w W->(∀k,(iP Vs i).own=some k->W.heap[k]? =w.heap[k]?)->(∀j,depOn ops i j=true->(iP Vs j).p (u j) W)->JF mk Vs i o u W)
  (hend:∀u W,Fr (fun k=>k∈L) w W->(∀i,i<ops.size->(iP Vs i).p (u i) W)->Q .normal (mk u) W):(Code.region id ops true).wp Tryz.prog Q a w:=
 zO mk Vs hm hlow hgd L hL hbw hown hnd ha (fun i o ho u W hf hold aj=>hstep i o ho u W hf (fun k hk=>hold i k hk (.inl rfl)) aj) hend
structure Zb{base:Nat}(mk:(Nat->Value)->Act)(Vs:List (Is base))(ops:Array Oper)(n:Nat)(w:World)(L:Array Bool)(a:Act)(W:World):Prop where
 sz:L.size=ops.size
 fr:Fr (Hq Vs) w W
 old:∀i k,(iP Vs i).own=some k->L.getD i false=false->W.heap[k]? =w.heap[k]?
 lst:L.getD n false=false
 act:∃u,a=mk u/\∀i,i<n->L.getD i false=true->(iP Vs i).p (u i) W
theorem NM{md:Region.Mode}{n:Nat}(mk:(Nat->Value)->Act)(Vs:List (Is base))(hmd:md= .any)(hn:ops.size=n+1)
  (hlow:((List.range ops.size).all fun i=>((ops[i]?).map fun o=>o.after.toList.all fun e=> !Region.binds .any e||decide (e.on<i)).getD true)=true)
  (hlast:((List.range n).all fun i=>depOn ops n i)=true)
  (hgd:ops.toList.all (fun o=>o.guard.isNone)=true) (hbw:base<=w.heap.size) (hown:∀k,Hq Vs k->k<base) (hnd:(Vs.filterMap (·.own)).Nodup)
  (hstep:∀i o,i<n->ops[i]? =some o->∀u W,Fr (Hq Vs) w W->(∀k,(iP Vs i).own=some k->W.heap[k]? =w.heap[k]?)->(∀j,depOn ops i j=true->(iP Vs j).p (u j) W)->JF mk Vs i o u W)
  (hend:∀o,ops[n]? =some o->∀u W,Fr (Hq Vs) w W->(∀i,i<n->(iP Vs i).p (u i) W)->Does o (mk u) W (fun v W'=>Q .normal ((mk u).put o.dst v) W')):
  ∀fuel L a W,Zb mk Vs ops n w L a W->L.toList.count false<=fuel->wpAny Tryz.prog md ops Q fuel L a W:=by
 subst hmd
 have hnr:∀ (L:Array Bool),L.size=ops.size->Region.ready .any ops L= []->L.getD n false=true:=fun L hs hr=>sV hr hs hlow n (by omega)
 have hall:∀ (L:Array Bool),(∀i,i<ops.size->L.getD i false=true)->L.size=ops.size->Region.ready .any ops L= []:=fun L hL hs=>by
  cases hr:Region.ready .any ops L with
  |nil=>rfl
  |cons i r=>
   have hm:=iO (md:= .any) (ops:=ops) (L:=L) (i:=i) (by rw[hr];exact List.mem_cons_self ..)
   have h1:=hL i hm.1
   have h2:=hm.2.1
   have h3:i<L.size:=by have:=hm.1;omega
   simp[Array.getD,h3]at h1 h2
   rw[h1]at h2;cases h2
 intro fuel
 induction fuel with
 |zero=>
  intro L a W hI hc
  exfalso
  have hL:n<L.size:=by have:=hI.sz;omega
  have h4:L.toList.count false=0:=by omega
  rw[List.count_eq_zero]at h4
  have h3:L[n]=false:=by simpa[Array.getD,hL]using hI.lst
  exact h4 (by rw[<-h3];exact Array.mem_toList_iff.2 (Array.getElem_mem hL))
 |succ fuel ih=>
  intro L a W hI hc
  refine⟨fun hr=>(by have:=hnr L hI.sz hr;rw[hI.lst]at this;cases this),fun i hi=> ?_⟩
  have hm:=iO hi
  have hL:i<L.size:=by have:=hI.sz;omega
  have h3:L[i]=false:=by simpa[Array.getD,hL]using hm.2.1
  have hcnt:(L.setIfInBounds i true).toList.count false<=fuel:=by
   have h5:(L.setIfInBounds i true).toList=L.toList.set i true:=by simp
   rw[h5,List.count_set (by simpa using hL)]
   have h6:L.toList[i]'(by simpa using hL)=false:=by simpa using h3
   rw[h6]
   have h7:0<L.toList.count false:=List.count_pos_iff.2 (by rw[<-h3];exact Array.mem_toList_iff.2 (Array.getElem_mem hL))
   simp
   simp at hc h7
   omega
  obtain⟨hs,hb,hol,hls,u,rfl,hu⟩:=hI
  obtain⟨o,ho⟩:∃o,ops[i]? =some o:=⟨_,Array.getElem?_eq_getElem hm.1⟩
  have hg:o.guard=none:=by
   have:=List.all_eq_true.1 hgd o (Array.mem_toList_iff.2 (Array.mem_of_getElem? ho))
   simpa using this
  have hdone:∀j,depOn ops i j=true->L.getD j false=true:=by
   intro j hj
   unfold depOn at hj
   rw[ho]at hj
   simp only[Option.map_some,Option.getD_some,List.any_eq_true,Bool.and_eq_true,beq_iff_eq]at hj
   obtain⟨e,he,hbd,rfl⟩:=hj
   exact hm.2.2 o ho e he hbd
  have hlt:∀j,depOn ops i j=true->j<i:=by
   intro j hj
   unfold depOn at hj
   rw[ho]at hj
   simp only[Option.map_some,Option.getD_some,List.any_eq_true,Bool.and_eq_true,beq_iff_eq]at hj
   obtain⟨e,he,hbd,rfl⟩:=hj
   have h1:=List.all_eq_true.1 hlow i (List.mem_range.2 hm.1)
   rw[ho]at h1
   simp only[Option.map_some,Option.getD_some,List.all_eq_true]at h1
   have h2:=h1 e he
   rw[hbd]at h2
   simpa using h2
  unfold wpOp
  rw[ho]
  simp only
  rw[if_pos (by simp[Region.wanted,hg])]
  by_cases hin:i=n
  ·subst hin
   have hd:=hend o ho u W hb (fun j hj=>hu j hj (hdone j (List.all_eq_true.1 hlast j (List.mem_range.2 hj))))
   refine .inl (hd.wp ?_)
   intro v W' hQ
   have adC:∀j,j<ops.size->(L.setIfInBounds i true).getD j false=true:=fun j hj=>by
    by_cases h:i=j
    ·subst h;exact qX hL
    ·rw[iU h];exact hdone j (List.all_eq_true.1 hlast j (List.mem_range.2 (by omega)))
   have hr:=hall (L.setIfInBounds i true) adC (by simp[hs])
   cases fuel with
   |zero=>exact⟨hr,hQ⟩
   |succ fuel=>exact⟨fun _=>hQ,fun j hj=>by rw[hr]at hj;cases hj⟩
  ·have hi2:i<n:=by have:=hm.1;omega
   have hd:=hstep i o hi2 ho u W hb (fun k hk=>hol i k hk (by simpa[Array.getD,hL]using h3)) (fun j hj=>hu j (by have:=hlt j hj;omega) (hdone j hj))
   refine .inl (hd.wp ?_)
   rintro v W' ⟨e1,hv,hb'⟩
   rw[e1]
   refine ih _ _ _ ⟨by simp[hs],hb.trans (hb'.more fun k hk=>⟨i,hk⟩), ?_,by rw[iU hin];exact hls,_,rfl, ?_⟩ hcnt
   ·intro j k hk hlj
    have hji:j≠i:=fun e=>by subst e;rw[qX hL]at hlj;cases hlj
    rw[iU (Ne.symm hji)]at hlj
    have h1:=hown k ⟨j,hk⟩
    have h2:=hb.size
    rw[hb'.block k (by omega) (fun hk2=>hji (wO hnd hk hk2))]
    exact hol j k hk hlj
   ·intro j hj hlj
    by_cases hji:j=i
    ·subst hji;rw[if_pos rfl];exact hv
    ·rw[if_neg hji]
     rw[iU (Ne.symm hji)]at hlj
     exact(iP Vs j).up _ _ _ _ (hu j hj hlj) hb' (fun k hk=>⟨hown k ⟨i,hk⟩,fun hk2=>hji (wO hnd hk2 hk)⟩)
theorem mX{id:Nat}{a:Act}(n:Nat)(mk:(Nat->Value)->Act)(Vs:List (Is base))
  (hm:Tryz.prog.follows .mixedOrders=true) (hn:ops.size=n+1)
  (hlow:((List.range ops.size).all fun i=>((ops[i]?).map fun o=>o.after.toList.all fun e=> !Region.binds .any e||decide (e.on<i)).getD true)=true)
  (hlast:((List.range n).all fun i=>depOn ops n i)=true)
  (hgd:ops.toList.all (fun o=>o.guard.isNone)=true) (L:List Nat) (hL:Vs.filterMap (·.own)=L) (hbw:base<=w.heap.size) (hown:∀k∈L,k<base) (hnd:L.Nodup)
  (ha:∃u,a=mk u)
  (hstep:∀i o,i<n->ops[i]? =some o->∀u W,Fr (fun k=>k∈L) w W->(∀k,(iP Vs i).own=some k->W.heap[k]? =w.heap[k]?)->(∀j,depOn ops i j=true->(iP Vs j).p (u j) W)->JF mk Vs i o u W)
  (hend:∀o,ops[n]? =some o->∀u W,Fr (fun k=>k∈L) w W->(∀i,i<n->(iP Vs i).p (u i) W)->Does o (mk u) W (fun v W'=>Q .normal ((mk u).put o.dst v) W')):(Code.region id ops true).wp Tryz.prog Q a w:=by
 subst hL
 refine wp_region_any hm (NM (w:=w) mk Vs rfl hn hlow hlast hgd hbw (fun k hk=>hown k (oW hk)) hnd (fun i o hi ho u W hf=>hstep i o hi ho u W (hf.more fun _=>oW)) (fun o ho u W hf=>hend o ho u W (hf.more fun _=>oW)) _ _ _ _ ⟨by simp, .of_below (Below.refl w.heap.size w).drew,fun _ _ _ _=>rfl,by simp[Array.getD,hn], ?_⟩ ?_)
 ·obtain⟨u,rfl⟩:=ha
  exact⟨u,rfl,fun i hi h=>by have:i<ops.size:=by omega
                             simp[Array.getD,this]at h⟩
 ·simp
end
end Go.Proofs.YteppebbmnojapaaGreatDoor
