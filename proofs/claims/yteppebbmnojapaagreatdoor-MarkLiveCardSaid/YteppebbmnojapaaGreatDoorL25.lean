/- Part of this proof. -/
import Derived.Test.YteppebbmnojapaaGreatDoorL24
set_option maxRecDepth 100000
set_option maxHeartbeats 8000000
namespace Go.Proofs.YteppebbmnojapaaGreatDoor
open Go.RowKit Go.Shelf
theorem WG:∀args w,(callFunc 277 args).run Tryz.prog w= .ok (.enter 277 args) w:=fun args w=>by kernel_rfl
theorem Zf:∀args w,(callFunc 218 args).run Tryz.prog w= .ok (.enter 218 args) w:=fun args w=>by kernel_rfl
theorem Zg(ks:List ByteArray)(is:List Int)(k:Nat)(hk:k<ks.length)(hi:k<is.length):Nd.oM (ks.drop k) (is.drop k)=Nd.text ks[k]++(Cp.be 4 is[k].toNat++Nd.oM (ks.drop (k+1)) (is.drop (k+1))):=by
 rw[List.drop_eq_getElem_cons hk,List.drop_eq_getElem_cons (l:=is) (i:=k) hi]
 unfold Nd.oM Nd.PK
 rw[List.zip_cons_cons,List.flatMap_cons,List.append_assoc]
theorem Ei(i0:Int)(is:List Int)(ks:List ByteArray)(hf:Nd.fits (Nd.ah (i0::is) ks)=true)(w:World):
  Calls Tryz.prog 213 #[.int .u8 2, .string (Nd.str (Cp.be 4 i0.toNat++Nd.oM ks is))] w (NV (Nd.ah (i0::is) ks) w):=by
 have hnb:=iT hf
 obtain⟨hr,hs⟩:=Tp.bf.1 hf
 obtain⟨_,hl,hid,hkf⟩:=Nd.aY.1 hr
 have hmay:=((Nd.jd ks).1 hkf).1
 have hlk:ks.length=is.length:=by simpa using hl
 have hkl:ks.length<=1000:=by
  have hs:4+Nd.aF ks<=240:=hs
  have:=Nd.sQ ks;omega
 have hi0:=hid i0 List.mem_cons_self
 have hint:=Nd.Jq i0 hi0.1 hi0.2 (Nd.oM ks is)
 have WH:∀ (k:Nat) (h:k<is.length),2<=is[k]/\is[k]<=4294967295:=fun k h=>hid _ (List.mem_cons_of_mem _ (List.getElem_mem h))
 have aaE:∀ (k:Nat) (h:k<ks.length),ks[k].size<=255:=fun k h=>(Nd.wK (x:=(ks[k],⟨#[]⟩)) (hmay _ (List.getElem_mem h))).2.1
 have SI:=Lib.hid (fun v W h=>oU v (Nd.ah (i0::is) ks) W h hnb)
 rw[hf]at SI
 have HK:=Lib.hid (fun k hk hi=>Zg ks is k hk hi)
 have HID:=Lib.hid WH
 have JX:=Lib.hid aaE
 have HLK:=Lib.hid hlk
 obtain⟨ND,hND⟩:∃x,x=Nd.ah (i0::is) ks:=⟨_,rfl⟩
 rw[<-hND]at SI ⊢
 have HND:=Lib.hid hND
 obtain⟨s,hse⟩:∃s,s=Cp.be 4 i0.toNat++Nd.oM ks is:=⟨_,rfl⟩
 rw[<-hse]at hint ⊢
 have HI:=Lib.hid (fun g W h=>fH g ⟨s,0⟩ 4 W h (.inr (.inr rfl)))
 rw[hint]at HI
 have e0:((i0.toNat:Nat):Int)=i0:=by omega
 simp only[e0]at HI
 have HLs:=Lib.hid (show ks.length=is.length from hlk)
 clear hnb hr hs hl hid hkf hmay hf hlk hi0 hint WH aaE hND hse e0
 have hb1:=(Below.refl w.heap.size w).alloc (Nat.le_refl _) (.cells #[.bool false, .slice none 0 0, .slice none 0 0, .slice none 0 0] 146)
 have hb2:=hb1.alloc hb1.size (.cells #[.bool false, .slice none 0 0, .slice none 0 0, .slice none 0 0] 146)
 have hBa:=(Blk.new w 146 #[.bool false, .slice none 0 0, .slice none 0 0, .slice none 0 0]).alloc (.cells #[.bool false, .slice none 0 0, .slice none 0 0, .slice none 0 0] 146)
 have hBb:=Blk.new (w.alloc (.cells #[.bool false, .slice none 0 0, .slice none 0 0, .slice none 0 0] 146)) 146 #[.bool false, .slice none 0 0, .slice none 0 0, .slice none 0 0]
 simp only[World.size_alloc]at hBb
 have hzz:((w.alloc (.cells #[.bool false, .slice none 0 0, .slice none 0 0, .slice none 0 0] 146)).alloc (.cells #[.bool false, .slice none 0 0, .slice none 0 0, .slice none 0 0] 146)).heap.size=w.heap.size+2:=by simp
 have HBa:=Lib.hid hBa
 have HBb:=Lib.hid hBb
 have HB2:=Lib.hid hb2
 clear hb1 hb2 hBa hBb
 go_enter Tryz.func213,Tryz.ntmps213
 go_wp2_with fail
 generalize (w.alloc (.cells #[.bool false, .slice none 0 0, .slice none 0 0, .slice none 0 0] 146)).alloc (.cells #[.bool false, .slice none 0 0, .slice none 0 0, .slice none 0 0] 146)=w0 at*
 refine(mM s _).mono ?_
 rintro e w1 ⟨rfl,hw1⟩
 have hz1:w1.heap.size=w.heap.size+3:=by rw[hw1,World.size_alloc,hzz]
 have hB0:Blk w1 (w.heap.size+2) 372 (aH ⟨s,0⟩):=by rw[hw1, <-hzz];exact Blk.new _ _ _
 have mW:Below (w.heap.size+2) w0 w1:=by rw[hw1];exact(Below.refl _ _).alloc (by rw[hzz];exact Nat.le_refl _) _
 have hBa:=HBa.out.below mW (by omega)
 have hBb:=HBb.out.below mW (by omega)
 have hbw:=HB2.out.trans (mW.mono (by omega))
 clear hw1 mW
 simp only[hzz]
 go_wp2_with fail
 refine(HI.out _ _ hB0).mono ?_
 rintro e w3 ⟨rfl,hB1,hg3⟩
 have hBa:=hBa.grown hg3 (by simp)
 have hBb:=hBb.grown hg3 (by simp)
 have hbw:=hbw.grown hg3 (by omega) (fun k e=>by cases e;omega)
 have hz3:=hg3.size
 have hs3:(w3.setCell ⟨w.heap.size+1,2,none⟩ (.slice (some ⟨w3.heap.size,0,none⟩) 1 1)).heap.size=w3.heap.size:=by simp
 have adK:=(hBa.far (p:=⟨w.heap.size+1,2,none⟩) (by simp) (.slice (some ⟨w3.heap.size,0,none⟩) 1 1)).alloc (.cells #[.int .i64 i0] 3)
 have abC:=(hBb.aW 2 (.slice (some ⟨w3.heap.size,0,none⟩) 1 1)).alloc (.cells #[.int .i64 i0] 3)
 simp only[List.setIfInBounds_toArray,List.set_cons_succ,List.set_cons_zero]at abC
 have JY:=(hB1.far (p:=⟨w.heap.size+1,2,none⟩) (by simp) (.slice (some ⟨w3.heap.size,0,none⟩) 1 1)).alloc (.cells #[.int .i64 i0] 3)
 have hI4:=Blk.new (w3.setCell ⟨w.heap.size+1,2,none⟩ (.slice (some ⟨w3.heap.size,0,none⟩) 1 1)) 3 #[.int .i64 i0]
 rw[hs3]at hI4
 have hO4:LO aV 3 ((w3.setCell ⟨w.heap.size+1,2,none⟩ (.slice (some ⟨w3.heap.size,0,none⟩) 1 1)).alloc (.cells #[.int .i64 i0] 3)) w3.heap.size (.slice (some ⟨w3.heap.size,0,none⟩) 1 1) [i0]:=LO.one rfl rfl hI4 (Nat.le_refl _)
 have kJ:Below w.heap.size w ((w3.setCell ⟨w.heap.size+1,2,none⟩ (.slice (some ⟨w3.heap.size,0,none⟩) 1 1)).alloc (.cells #[.int .i64 i0] 3)):=(hbw.setCell (p:=⟨w.heap.size+1,2,none⟩) (by simp) _).alloc (by rw[hs3];omega) _
 have hz4:w3.heap.size<((w3.setCell ⟨w.heap.size+1,2,none⟩ (.slice (some ⟨w3.heap.size,0,none⟩) 1 1)).alloc (.cells #[.int .i64 i0] 3)).heap.size:=by simp
 have g2:=hBb.cell 2
 have f2:=hBb.frozen 2
 have lb:=hBb.lt
 have HB4:=Lib.hid adK
 have af4:=Lib.hid abC
 have abD:=Lib.hid JY
 have HO4:=Lib.hid hO4
 have HW4:=Lib.hid kJ
 have HZ4:=Lib.hid hz4
 clear hBa hBb adK abC hB1 JY hI4 hO4 hbw kJ hg3 hz4 hs3
 go_wp2
 go_loopg [] ks.length (fun g wr=>∃ (k:Nat) (Ai Ay:Option Addr) (ci cy:Nat),k<=ks.length/\ks.length-k<=g/\Blk wr (w.heap.size+1) 146 #[.bool false, .slice none 0 0, .slice Ai (k+1) ci, .slice Ay k cy]/\Hid (LO aV 3 wr w3.heap.size (.slice Ai (k+1) ci) ((i0::is).take (k+1)))/\Hid (LO keyE 9 wr w3.heap.size (.slice Ay k cy) (ks.take k))/\Blk wr (w.heap.size+2) 372 (aH ⟨Nd.oM (ks.drop k) (is.drop k),0⟩)/\Blk wr w.heap.size 146 #[.bool false, .slice none 0 0, .slice none 0 0, .slice none 0 0]/\Below w.heap.size w wr/\w3.heap.size<=wr.heap.size)
 case atStart=>exact⟨0,_,none,_,0,Nat.zero_le _,by omega,af4.out,Lib.hid HO4.out,Lib.hid (LO.nil_ _ _),abD.out,HB4.out,HW4.out,by have:=HZ4.out;omega⟩
 case round=>
  obtain⟨k,Ai,Ay,ci,cy,hk,hg,hBn,HOI,HOK,hBr,hB4,hbw,hz⟩:=hrel
  by_cases hlt:k<ks.length
  ·have hi:k<is.length:=by have:=HLs.out;omega
   have hke:=HK.out k hlt hi
   rw[hke]at hBr
   have hS:=JX.out k hlt
   have hI:=HID.out k hi
   have HTA:=Lib.hid (List.take_succ_eq_append_getElem hlt)
   have hti:(i0::is).take (k+1+1)=(i0::is).take (k+1)++ [is[k]]:=by
    rw[List.take_succ_eq_append_getElem (by simpa using hi)];simp
   have HTI:=Lib.hid hti
   have hkl2:(ks.take k).length=k:=by rw[List.length_take];omega
   have adL:((i0::is).take (k+1)).length=k+1:=by rw[List.length_take];simp;omega
   have HKL:=Lib.hid hkl2
   have HIL:=Lib.hid adL
   obtain⟨rest,hrest⟩:∃x,x=Nd.oM (ks.drop (k+1)) (is.drop (k+1)):=⟨_,rfl⟩
   obtain⟨K1,hK1⟩:∃x,x=ks.take (k+1):=⟨_,rfl⟩
   obtain⟨I1,hI1⟩:∃x,x=(i0::is).take (k+1+1):=⟨_,rfl⟩
   rw[<-hrest]at hBr
   rw[<-hK1]at HTA
   rw[<-hI1]at HTI
   have adM:=Lib.hid hrest
   have HK1:=Lib.hid hK1
   have HI1:=Lib.hid hI1
   clear hrest hK1 hI1 hke hti
   generalize ks.take k=K at*
   generalize (i0::is).take (k+1)=I at*
   generalize ks[k]=S at*
   generalize is[k]=iv at*
   have htx:Nd.fK ⟨Nd.text S++(Cp.be 4 iv.toNat++rest),0⟩=(S.data.toList,⟨Cp.be 4 iv.toNat++rest,0⟩):=Nd.xX S hS _
   have hin:Cp.Rd.int ⟨Cp.be 4 iv.toNat++rest,0⟩ 4=(iv.toNat,⟨rest,0⟩):=Nd.Jq iv hI.1 hI.2 rest
   have hHT:=fun W h=>uZ (w.heap.size+2) ⟨Nd.text S++(Cp.be 4 iv.toNat++rest),0⟩ W h
   rw[htx]at hHT
   simp only[Nd.Bj]at hHT
   have HT:=Lib.hid hHT
   have hHI:=fun W h=>fH (w.heap.size+2) ⟨Cp.be 4 iv.toNat++rest,0⟩ 4 W h (.inr (.inr rfl))
   rw[hin]at hHI
   simp only[show((iv.toNat:Nat):Int)=iv by omega]at hHI
   have HII:=Lib.hid hHI
   have hpos:0<(Nd.text S++(Cp.be 4 iv.toNat++rest)).length:=by rw[List.length_append,Nd.gV];omega
   have HL:=ak (qm (w.heap.size+2) ⟨Nd.text S++(Cp.be 4 iv.toNat++rest),0⟩ wr hBr)
   have HE:=ak (PL (w.heap.size+2) ⟨Nd.text S++(Cp.be 4 iv.toNat++rest),0⟩ wr hBr)
   simp only at HL HE
   obtain⟨r0,hr0⟩:∃r,r=Nd.text S++(Cp.be 4 iv.toNat++rest):=⟨_,rfl⟩
   rw[<-hr0]at hBr hpos HL HT
   obtain⟨r1,hr1⟩:∃r,r=Cp.be 4 iv.toNat++rest:=⟨_,rfl⟩
   rw[<-hr1]at HT HII
   obtain⟨o1,ho1⟩:∃o,o=(Value.slice Ay k cy).ownBlock:=⟨_,rfl⟩
   obtain⟨o2,ho2⟩:∃o,o=(Value.slice Ai (k+1) ci).ownBlock:=⟨_,rfl⟩
   have hn1:∀g,o1=some g->g<wr.heap.size/\g≠w.heap.size+1/\g≠w.heap.size+2/\g≠w.heap.size/\o2≠some g/\w3.heap.size<=g:=fun g e=>by
    rw[ho1]at e
    have h1:=World.ownsRow.lt HOK.out g e
    have hne:=fun(g':Nat) (ty:TypeId) (cs:Array Value) (hB:Blk wr g' ty cs) (hty:9≠ty)=>aB HOK.out hB hty
    refine⟨h1.2,fun e'=>hne _ _ _ hBn (by decide) (e' ▸ e),fun e'=>hne _ _ _ hBr (by decide) (e' ▸ e),fun e'=>hne _ _ _ hB4 (by decide) (e' ▸ e), ?_,h1.1⟩
    rw[ho2]
    exact PX HOK.out HOI.out (by decide) e
   have hn2:∀g,o2=some g->g<wr.heap.size/\g≠w.heap.size+1/\g≠w.heap.size+2/\g≠w.heap.size/\w3.heap.size<=g:=fun g e=>by
    rw[ho2]at e
    have h1:=World.ownsRow.lt HOI.out g e
    have hne:=fun(g':Nat) (ty:TypeId) (cs:Array Value) (hB:Blk wr g' ty cs) (hty:3≠ty)=>aB HOI.out hB hty
    exact⟨h1.2,fun e'=>hne _ _ _ hBn (by decide) (e' ▸ e),fun e'=>hne _ _ _ hBr (by decide) (e' ▸ e),fun e'=>hne _ _ _ hB4 (by decide) (e' ▸ e),h1.1⟩
   have HN1:=Lib.hid hn1
   have HN2:=Lib.hid hn2
   have HO1:=Lib.hid ho1
   have HO2:=Lib.hid ho2
   have hgr:=hBr.lt
   have hgn:=hBn.lt
   clear hr0 hr1 hS hI htx hin hHT hHI hkl2 adL hn1 hn2 ho1 ho2
   generalize r0.length=n0 at*
   have HBR:=Lib.hid hBr
   have HBN:=Lib.hid hBn
   have HB4:=Lib.hid hB4
   have HBW:=Lib.hid hbw
   clear hBr hBn hB4 hbw
   go_wp2_with fail
   refine HL.out.mono ?_
   rintro e wr ⟨rfl,rfl⟩
   go_wp2_with fail
   refine HE.out.mono ?_
   rintro e wr ⟨rfl,rfl⟩
   go_wp2_with fail
   have hz6:wr.heap.size<=wr.heap.size:=Nat.le_refl _
   refine mX (base:=wr.heap.size) 7 (fun u=>⟨#[_,_,_,_,_,_,_,_,_,_,_,_,_,_,_,_,_,_,_,_,_,_,_,_,_,_,_,_,_,_,_,_,_,_,_,u 0,u 1,u 2,u 3,u 4,u 5,u 6,_,_,_,_,_,_,_,_,_,_,_,_,_,_,_,_,_,_],_⟩)
    [Is.eq _ (.pointer (some ⟨w.heap.size+1,3,none⟩)),Is.eq _ (.slice Ay k cy),Is.eq _ (.pointer (some ⟨w.heap.size+2,0,none⟩)),Is.turn _ (w.heap.size+2) 372 (.string S) (aH ⟨r1,0⟩),Is.blk _ 9 1 #[.string S],Is.app _ keyE 9 w3.heap.size o1 (K++ [S]),Is.eq _ (.pointer (some ⟨w.heap.size+1,3,none⟩))]
    (by kernel_rfl) rfl (by kernel_rfl) (by kernel_rfl) (by kernel_rfl) ((w.heap.size+2)::o1.toList) (by cases o1<;>rfl) (Nat.le_refl _) ?_ ?_ ⟨fun i=>(#[u35,u36,u37,u38,u39,u40,u41]:Array Value).getD i undef,rfl⟩ ?_ ?_
   ·intro g hg
    rcases List.mem_cons.1 hg with rfl | hg
    ·have:=HBR.out.lt;omega
    ·have h1:=(HN1.out g (by simpa using hg)).1;have h2:=hz6;omega
   ·rw[List.nodup_cons]
    exact⟨fun hg=>(HN1.out _ (by simpa using hg)).2.2.1 rfl,by cases o1<;>simp⟩
   ·intro i o hi7 ho u W hf hold aj
    have hnL:∀g,g∈((w.heap.size+2)::o1.toList)->g=w.heap.size+2\/o1=some g:=fun g hg=>by
     rcases List.mem_cons.1 hg with h | h
     ·exact .inl h
     ·exact .inr (by simpa using h)
    have uf:=hf.blk HBN.out (fun a=>by
     rcases hnL _ a with h | h
     ·omega
     ·exact(HN1.out _ h).2.1 rfl)
    have cW:=uf.cell 3
    have hsz:=hf.size
    match i,ho with
    |0,ho=>obtain rfl:=Option.some.inj ho;exact Does.val (fP rfl rfl) ⟨rfl,rfl,Fr.refl _⟩
    |1,ho=>obtain rfl:=Option.some.inj ho;exact Does.val (bU rfl (aj 0 rfl) cW) ⟨rfl,rfl,Fr.refl _⟩
    |2,ho=>obtain rfl:=Option.some.inj ho;exact Does.val (dL rfl rfl) ⟨rfl,rfl,Fr.refl _⟩
    |3,ho=>
     obtain rfl:=Option.some.inj ho
     have Ej:Blk W (w.heap.size+2) 372 (aH ⟨r0,0⟩):=Eq.trans (hold _ rfl) HBR.out
     refine Does.call (dP WG rfl (aj 2 rfl)) (Calls.mono (HT.out W Ej) ?_)
     rintro e w' ⟨rfl,hB',hg'⟩
     exact⟨_,rfl,rfl,⟨rfl,hB'⟩,Fr.bW hg'⟩
    |4,ho=>obtain rfl:=Option.some.inj ho;exact Does.val (Fv rfl (aj 3 rfl).1) ⟨rfl,⟨W.heap.size,hsz,rfl,Blk.new _ _ _⟩, .of_below ((Below.refl _ _).alloc (Nat.le_refl _) _)⟩
    |5,ho=>
     obtain rfl:=Option.some.inj ho
     obtain⟨b,hb0,hb1,hb2⟩:=aj 4 rfl
     have hownW:LO keyE 9 W w3.heap.size (.slice Ay k cy) K:=LO.held HOK.out (fun g hg=>hold g (HO1.out.trans hg))
     refine FK Jy Tryz.underlying107 rfl rfl rfl rfl (aj 1 rfl) hownW hb1 hb2 (by have:=HKL.out;unfold maxLen;omega) (by have:=HKL.out;omega) (by omega) ?_
     intro v' w' h1 h2 h3
     refine⟨rfl,⟨h1,h1.form, ?_⟩, ?_⟩
     ·rcases h3 with h3 | ⟨g,h3,h4⟩
      ·exact .inl (h3.trans HO1.out.symm)
      ·exact .inr ⟨g,h3,by omega⟩
     ·rw[<-HO1.out]at h2;exact Fr.bW h2
    |6,ho=>obtain rfl:=Option.some.inj ho;exact Does.val (fP rfl rfl) ⟨rfl,rfl,Fr.refl _⟩
    |n+7,ho=>omega
   intro o ho u W hf hall
   obtain rfl:=Option.some.inj ho
   have hnL:∀g,g∈((w.heap.size+2)::o1.toList)->g=w.heap.size+2\/o1=some g:=fun g hg=>by
    rcases List.mem_cons.1 hg with h | h
    ·exact .inl h
    ·exact .inr (by simpa using h)
   have uf:=hf.blk HBN.out (fun a=>by
    rcases hnL _ a with h | h
    ·omega
    ·exact(HN1.out _ h).2.1 rfl)
   have SN:=hf.blk HB4.out (fun a=>by
    rcases hnL _ a with h | h
    ·omega
    ·exact(HN1.out _ h).2.2.2.1 rfl)
   have hBW:Below w.heap.size w W:=HBW.out.trans (hf.low (by have:=HBW.out.size;omega) (fun g a=>by
    rcases hnL _ a with h | h
    ·omega
    ·have:=(HN1.out _ h).2.2.2.2.2;omega))
   have hsz:=hf.size
   obtain⟨-,Ej⟩:=hall 3 (by decide)
   obtain⟨hL5,⟨A',c',e5⟩,hblk⟩:=hall 5 (by decide)
   have hcW:=uf.cell 3
   have hfW:=uf.frozen 3
   rw[e5]at hL5 hblk
   refine Does.skip (NZ rfl (hall 6 (by decide)) e5 hcW hfW) ?_
   have hbk:∀g,(Value.slice A' (K++ [S]).length c').ownBlock=some g->g≠w.heap.size+1/\g≠w.heap.size+2/\g≠w.heap.size:=fun g hg=>⟨fun e=>aB hL5 uf (by decide) (e ▸ hg),fun e=>aB hL5 Ej (by decide) (e ▸ hg),fun e=>aB hL5 SN (by decide) (e ▸ hg)⟩
   have hIW:LO aV 3 W w3.heap.size (.slice Ai (k+1) ci) I:=LO.frB HOI.out hf (fun g hg a=>by
    rcases hnL _ a with h | h
    ·exact(HN2.out g (HO2.out.trans hg)).2.2.1 h
    ·exact(HN1.out g h).2.2.2.2.1 (HO2.out.trans hg))
   have hfs:Fr (fun k=>k=w.heap.size+1) W (W.setCell ⟨w.heap.size+1,3,none⟩ (.slice A' (K++ [S]).length c')):=Fr.aW (S:=fun k=>k=w.heap.size+1) rfl _
   have hKW:=LO.frB hL5 hfs (fun g hg=>(hbk g hg).1)
   have SQ:=LO.frB hIW hfs (fun g hg=>(HN2.out g (HO2.out.trans hg)).2.1)
   have zk:=uf.aW 3 (.slice A' (K++ [S]).length c')
   simp only[List.setIfInBounds_toArray,List.set_cons_succ,List.set_cons_zero]at zk
   have JZ:=hfs.blk Ej (by omega)
   have J4:=hfs.blk SN (by omega)
   have hBW2:Below w.heap.size w (W.setCell ⟨w.heap.size+1,3,none⟩ (.slice A' (K++ [S]).length c')):=hBW.trans (hfs.low (by have:=hBW.size;omega) (fun g a=>by omega))
   have hz6:wr.heap.size<=(W.setCell ⟨w.heap.size+1,3,none⟩ (.slice A' (K++ [S]).length c')).heap.size:=by simp;omega
   generalize hw6:(W.setCell ⟨w.heap.size+1,3,none⟩ (.slice A' (K++ [S]).length c'))=w6 at*
   have HKW:=Lib.hid hKW
   have adN:=Lib.hid SQ
   have adO:=Lib.hid zk
   have abE:=Lib.hid JZ
   have af5:=Lib.hid J4
   have adP:=Lib.hid hBW2
   clear hall hbk hL5 hKW hIW SQ uf zk Ej JZ SN J4 hBW hBW2 hfs hcW hfW hblk hf hw6 e5 hnL
   go_wp2_with fail
   refine mX (base:=w6.heap.size) 7 (fun u=>⟨#[_,_,_,_,_,_,_,_,_,_,_,_,_,_,_,_,_,_,_,_,_,_,_,_,_,_,_,_,_,_,_,_,_,_,_,_,_,_,_,_,_,_,u 0,u 1,u 2,u 3,u 4,u 5,u 6,_,_,_,_,_,_,_,_,_,_,_],_⟩)
    [Is.eq _ (.pointer (some ⟨w.heap.size+1,2,none⟩)),Is.eq _ (.slice Ai (k+1) ci),Is.eq _ (.pointer (some ⟨w.heap.size+2,0,none⟩)),Is.turn _ (w.heap.size+2) 372 (.int .i64 iv) (aH ⟨rest,0⟩),Is.blk _ 3 1 #[.int .i64 iv],Is.app _ aV 3 w3.heap.size o2 (I++ [iv]),Is.eq _ (.pointer (some ⟨w.heap.size+1,2,none⟩))]
    (by kernel_rfl) rfl (by kernel_rfl) (by kernel_rfl) (by kernel_rfl) ((w.heap.size+2)::o2.toList) (by cases o2<;>rfl) (Nat.le_refl _) ?_ ?_ ⟨fun i=>(#[u42,u43,u44,u45,u46,u47,u48]:Array Value).getD i undef,rfl⟩ ?_ ?_
   ·intro g hg
    rcases List.mem_cons.1 hg with rfl | hg
    ·have:=abE.out.lt;omega
    ·have h1:=(HN2.out g (by simpa using hg)).1;have h2:=hz6;omega
   ·rw[List.nodup_cons]
    exact⟨fun hg=>(HN2.out _ (by simpa using hg)).2.2.1 rfl,by cases o2<;>simp⟩
   ·intro i o hi7 ho u W hf hold aj
    have hnL:∀g,g∈((w.heap.size+2)::o2.toList)->g=w.heap.size+2\/o2=some g:=fun g hg=>by
     rcases List.mem_cons.1 hg with h | h
     ·exact .inl h
     ·exact .inr (by simpa using h)
    have uf:=hf.blk adO.out (fun a=>by
     rcases hnL _ a with h | h
     ·omega
     ·exact(HN2.out _ h).2.1 rfl)
    have cW:=uf.cell 2
    have hsz:=hf.size
    match i,ho with
    |0,ho=>obtain rfl:=Option.some.inj ho;exact Does.val (fB rfl rfl) ⟨rfl,rfl,Fr.refl _⟩
    |1,ho=>obtain rfl:=Option.some.inj ho;exact Does.val (bI rfl (aj 0 rfl) cW) ⟨rfl,rfl,Fr.refl _⟩
    |2,ho=>obtain rfl:=Option.some.inj ho;exact Does.val (dL rfl rfl) ⟨rfl,rfl,Fr.refl _⟩
    |3,ho=>
     obtain rfl:=Option.some.inj ho
     have Ej:Blk W (w.heap.size+2) 372 (aH ⟨r1,0⟩):=Eq.trans (hold _ rfl) abE.out
     refine Does.call (wW Zf rfl (aj 2 rfl) rfl) (Calls.mono (HII.out W Ej) ?_)
     rintro e w' ⟨rfl,hB',hg'⟩
     exact⟨_,rfl,rfl,⟨rfl,hB'⟩,Fr.bW hg'⟩
    |4,ho=>obtain rfl:=Option.some.inj ho;exact Does.val (NY rfl (aj 3 rfl).1) ⟨rfl,⟨W.heap.size,hsz,rfl,Blk.new _ _ _⟩, .of_below ((Below.refl _ _).alloc (Nat.le_refl _) _)⟩
    |5,ho=>
     obtain rfl:=Option.some.inj ho
     obtain⟨b,hb0,hb1,hb2⟩:=aj 4 rfl
     have hownW:LO aV 3 W w3.heap.size (.slice Ai (k+1) ci) I:=LO.held adN.out (fun g hg=>hold g (HO2.out.trans hg))
     refine FK wL Tryz.underlying49 rfl rfl rfl rfl (aj 1 rfl) hownW hb1 hb2 (by have:=HIL.out;unfold maxLen;omega) (by have:=HIL.out;omega) (by omega) ?_
     intro v' w' h1 h2 h3
     refine⟨rfl,⟨h1,h1.form, ?_⟩, ?_⟩
     ·rcases h3 with h3 | ⟨g,h3,h4⟩
      ·exact .inl (h3.trans HO2.out.symm)
      ·exact .inr ⟨g,h3,by omega⟩
     ·rw[<-HO2.out]at h2;exact Fr.bW h2
    |6,ho=>obtain rfl:=Option.some.inj ho;exact Does.val (fB rfl rfl) ⟨rfl,rfl,Fr.refl _⟩
    |n+7,ho=>omega
   intro o ho u W hf hall
   obtain rfl:=Option.some.inj ho
   have hnL:∀g,g∈((w.heap.size+2)::o2.toList)->g=w.heap.size+2\/o2=some g:=fun g hg=>by
    rcases List.mem_cons.1 hg with h | h
    ·exact .inl h
    ·exact .inr (by simpa using h)
   have uf:=hf.blk adO.out (fun a=>by
    rcases hnL _ a with h | h
    ·omega
    ·exact(HN2.out _ h).2.1 rfl)
   have SN:=hf.blk af5.out (fun a=>by
    rcases hnL _ a with h | h
    ·omega
    ·exact(HN2.out _ h).2.2.2.1 rfl)
   have hBW:Below w.heap.size w W:=adP.out.trans (hf.low (by have:=adP.out.size;omega) (fun g a=>by
    rcases hnL _ a with h | h
    ·omega
    ·have:=(HN2.out _ h).2.2.2.2;omega))
   have hsz:=hf.size
   obtain⟨-,Ej⟩:=hall 3 (by decide)
   obtain⟨hL5,⟨A'',c'',e5⟩,hblk⟩:=hall 5 (by decide)
   have hcW:=uf.cell 2
   have hfW:=uf.frozen 2
   rw[e5]at hL5 hblk
   refine Does.skip (N7 rfl (hall 6 (by decide)) e5 hcW hfW) ?_
   have hbk:∀g,(Value.slice A'' (I++ [iv]).length c'').ownBlock=some g->g≠w.heap.size+1:=fun g hg e=>aB hL5 uf (by decide) (e ▸ hg)
   have hKW:LO keyE 9 W w3.heap.size (.slice A' (K++ [S]).length c') (K++ [S]):=LO.frB HKW.out hf (fun g hg a=>by
    rcases hnL _ a with h | h
    ·exact aB HKW.out abE.out (by decide) (h ▸ hg)
    ·exact PX adN.out HKW.out (by decide) (HO2.out.symm.trans h) hg)
   have hfs:Fr (fun k=>k=w.heap.size+1) W (W.setCell ⟨w.heap.size+1,2,none⟩ (.slice A'' (I++ [iv]).length c'')):=Fr.aW (S:=fun k=>k=w.heap.size+1) rfl _
   have abG:=LO.frB hKW hfs (fun g hg e=>aB hKW uf (by decide) (e ▸ hg))
   have SQ:=LO.frB hL5 hfs (fun g hg=>hbk g hg)
   have zk:=uf.aW 2 (.slice A'' (I++ [iv]).length c'')
   simp only[List.setIfInBounds_toArray,List.set_cons_succ,List.set_cons_zero]at zk
   have JZ:=hfs.blk Ej (by omega)
   have J4:=hfs.blk SN (by omega)
   have hBW2:Below w.heap.size w (W.setCell ⟨w.heap.size+1,2,none⟩ (.slice A'' (I++ [iv]).length c'')):=hBW.trans (hfs.low (by have:=hBW.size;omega) (fun g a=>by omega))
   have hz7:w6.heap.size<=(W.setCell ⟨w.heap.size+1,2,none⟩ (.slice A'' (I++ [iv]).length c'')).heap.size:=by simp;omega
   generalize hw7:(W.setCell ⟨w.heap.size+1,2,none⟩ (.slice A'' (I++ [iv]).length c''))=w7 at*
   have e1:(K++ [S]).length=k+1:=by rw[List.length_append,HKL.out];rfl
   have e2:(I++ [iv]).length=k+1+1:=by rw[List.length_append,HIL.out];rfl
   rw[e1, <-HTA.out]at abG
   rw[e1,e2]at zk
   rw[e2, <-HTI.out]at SQ
   have af6:=Lib.hid abG
   have af7:=Lib.hid SQ
   have af8:=Lib.hid zk
   have af9:=Lib.hid JZ
   have aga:=Lib.hid J4
   have Zh:=Lib.hid hBW2
   clear hall hbk hL5 hKW uf Ej SN hBW hfs hcW hfW hblk hf hw7 e5 hnL e1 e2 abG SQ zk JZ J4 hBW2
   go_wp2
   go_roundg (ks.length-(k+1))
   case measure=>omega
   case rel=>exact⟨k+1,A'',A',c'',c',by omega,by omega,af8.out,by rw[<-HI1.out];exact af7,by rw[<-HK1.out];exact af6,by rw[<-adM.out];exact af9.out,aga.out,Zh.out,by omega⟩
  ·obtain rfl:k=ks.length:=by omega
   have hke:Nd.oM (ks.drop ks.length) (is.drop ks.length)= []:=by rw[List.drop_of_length_le (Nat.le_refl _)];rfl
   rw[hke]at hBr
   have aZ:=Lib.hid (sS (w.heap.size+2) ⟨[],0⟩ wr hBr)
   have HL:=ak (qm (w.heap.size+2) ⟨[],0⟩ wr hBr)
   have hK:ks.take ks.length=ks:=List.take_of_length_le (Nat.le_refl _)
   have hI:(i0::is).take (ks.length+1)=i0::is:=List.take_of_length_le (by have:=HLs.out;simp;omega)
   rw[hK]at HOK
   rw[hI]at HOI
   have HIL:Hid ((i0::is).length=ks.length+1):=Lib.hid (by have:=HLs.out;simp;omega)
   have hgr:=hBr.lt
   have HBN:=Lib.hid hBn
   have HB4:=Lib.hid hB4
   have HBW:=Lib.hid hbw
   clear hBr hBn hB4 hbw hke hK hI
   go_wp2_with fail
   refine HL.out.mono ?_
   rintro e wr ⟨rfl,rfl⟩
   go_wp2_with fail
   refine aZ.out.mono ?_
   rintro e w4 ⟨x,rfl,hx,hb4⟩
   have hx0:x=0:=by have h:(x==0)=true:=hx;simpa using h
   subst hx0
   clear hx
   have hBn:=HBN.out.below hb4 HBN.out.lt
   have hB4:=HB4.out.below hb4 HB4.out.lt
   have hbw:Below w.heap.size w w4:=HBW.out.trans (hb4.mono HBW.out.size)
   have hOI:=LO.below HOI.out hb4
   have hOK:=LO.below HOK.out hb4
   have hz4:=hb4.size
   have e2:Value.slice Ai (ks.length+1) ci= .slice Ai (i0::is).length ci:=by rw[HIL.out]
   rw[e2]at hOI
   have hnf:NF w3.heap.size w4 (.agg #[.bool false, .slice none 0 0, .slice Ai (ks.length+1) ci, .slice Ay ks.length cy]) ND:=by
    rw[HND.out,e2]
    exact⟨none,0,Ai,ci,Ay,cy,rfl,LO.nil_ _ _,hOI,hOK⟩
   have hFF:=Lib.hid (SI.out _ w4 (NF.ns hnf))
   have c0:=hBn.cell 0
   have c1:=hBn.cell 1
   have c2:=hBn.cell 2
   have c3:=hBn.cell 3
   have l1:=hBn.lt
   have HNF:=Lib.hid hnf
   have adQ:=Lib.hid hB4
   have adR:=Lib.hid hbw
   clear hBn hB4 hbw hOI hOK hb4 e2 hnf
   go_wp2_with fail
   refine hFF.out.mono ?_
   rintro e w5 ⟨rfl,hb5⟩
   have hz5:=hb5.size
   have hBn:=HBN.out
   have hB4:=adQ.out.below hb5 adQ.out.lt
   have hnf:=NF.below HNF.out hb5
   have hbw:Below w.heap.size w w5:=adR.out.trans (hb5.mono adR.out.size)
   have d0:w5.cell? ⟨w.heap.size+1,0,none⟩=some (.bool false):=(hb5.cell (p:=⟨w.heap.size+1,0,none⟩) l1).trans c0
   have d1:w5.cell? ⟨w.heap.size+1,1,none⟩=some (.slice none 0 0):=(hb5.cell (p:=⟨w.heap.size+1,1,none⟩) l1).trans c1
   have d2:w5.cell? ⟨w.heap.size+1,2,none⟩=some (.slice Ai (ks.length+1) ci):=(hb5.cell (p:=⟨w.heap.size+1,2,none⟩) l1).trans c2
   have d3:w5.cell? ⟨w.heap.size+1,3,none⟩=some (.slice Ay ks.length cy):=(hb5.cell (p:=⟨w.heap.size+1,3,none⟩) l1).trans c3
   have a0:=hB4.cell 0
   have a1:=hB4.cell 1
   have a2:=hB4.cell 2
   have a3:=hB4.cell 3
   have f0:=hB4.frozen 0
   have f1:=hB4.frozen 1
   have f2:=hB4.frozen 2
   have f3:=hB4.frozen 3
   have l4:=hB4.lt
   have H4:=Lib.hid hB4
   have HN:=Lib.hid hnf
   have HW:=Lib.hid hbw
   clear hBn hB4 hnf hbw hb5 c0 c1 c2 c3
   go_wp2
   try simp only[Exit.inBlock,Exit.then]
   refine bodyPost_ret (aO aN rfl rfl (H4.out.kS _ _ _ _) rfl) rfl ?_
   have hfr:∀a b c d,Fr (fun k=>k=w.heap.size) w5 _:=fun a b c d=>Fr.kS (w:=w5) (g:=w.heap.size) (S:=fun k=>k=w.heap.size) rfl a b c d
   exact⟨_,rfl,NF.lower (NF.fr HN.out (hfr _ _ _ _) (fun k hk=>by omega)) (by omega),HW.out.trans ((hfr _ _ _ _).low (by omega) (fun k hk=>by omega))⟩
theorem jC(n:Nd.Node)(hf:Nd.fits n=true)(w:World):Calls Tryz.prog 213 #[.int .u8 (Nd.kind n:Nat), .string (Nd.str (Nd.enc n))] w (NV n w):=by
 have hr:=(Tp.bf.1 hf).1
 obtain⟨leaf,ents,kids,keys⟩:=n
 cases leaf with
 |true=>
  obtain⟨_,rfl,rfl⟩:=Nd.eP.1 hr
  exact Hz ents hf w
 |false=>
  obtain⟨rfl,h2,_,_⟩:=Nd.aY.1 hr
  cases kids with
  |nil=>simp at h2
  |cons i0 is=>exact Ei i0 is keys hf w
def fJ(id:Int):Prop:=0<=id/\id<=4294967295
theorem fJ.wf{id:Int}(h:fJ id):(Lit.int .i64 id).wf=true:=WalkArith.wf_i64 (by unfold fJ at h;omega)
def abH(B:Nat)(w:World)(S:Nat->Prop):Prop:=∀k,S k->B<=k/\∀o,w.heap[k]? =some o->Far o
structure fU(S:Nat->Prop)(B t:Nat)(room:Int)(disk:Tp.aA)(TM:Nat->Tp.Pst->World->Prop):Prop where
 low:∀k,S k->k<B
 size:∀ {r σ w},TM r σ w->B<=w.heap.size
 up:∀ {r σ w w' S'},TM r σ w->Fr S' w w'->abH B w S'->TM r σ w'
 less:∀ {r r' σ w},TM r σ w->r'<=r->TM r' σ w
 ht:∀ {r σ w id n},TM r σ w->σ.view disk id=some n->Nd.fits n=true/\fJ id
 get:∀ {r σ w id n},TM (r+1) σ w->σ.view disk id=some n->∀k:Nat,(n.leaf=true->k=1)->(n.leaf=false->k=2)->
  Calls Tryz.prog 212 #[.pointer (some ⟨t,0,none⟩), .int .i64 id, .int .u8 k] w fun e w'=>e= .returned (.tuple #[.string (Nd.str (Nd.enc n)), .int .i64 0])/\TM r σ w'/\Fr S w w'
 Ia:∀ {r σ w id n},TM (r+1) σ w->σ.view disk id=some n->n.leaf=false->
  Calls Tryz.prog 212 #[.pointer (some ⟨t,0,none⟩), .int .i64 id, .int .u8 1] w fun e w'=>e= .returned (.tuple #[.string ⟨#[]⟩, .int .i64 3])/\TM r σ w'/\Fr S w w'
 fresh:∀ {r σ w} (id:Int),TM r σ w->fJ id->
  Calls Tryz.prog 296 #[.pointer (some ⟨t,0,none⟩), .int .i64 id] w fun e w'=>e= .returned (.bool (decide (id∈σ.mine)))/\TM r σ w'/\Fr S w w'
 alloc:∀ {r σ σ' w id},TM r σ w->Tp.dF room σ=some (id,σ')->
  Calls Tryz.prog 30 #[.pointer (some ⟨t,0,none⟩)] w fun e w'=>e= .returned (.tuple #[.int .i64 id, .int .i64 0])/\fJ id/\id∈σ'.mine/\TM r σ' w'/\Fr S w w'
 full:∀ {r σ w},TM r σ w->Tp.dF room σ=none->
  Calls Tryz.prog 30 #[.pointer (some ⟨t,0,none⟩)] w fun e w'=>e= .returned (.tuple #[.int .i64 0, .int .i64 2])/\TM r σ w'/\Fr S w w'
 put:∀ {r σ w id n},TM r σ w->fJ id->id∈σ.mine->Nd.fits n=true->∀k:Nat,(n.leaf=true->k=1)->(n.leaf=false->k=2)->
  Calls Tryz.prog 305 #[.pointer (some ⟨t,0,none⟩), .int .i64 id, .int .u8 k, .string (Nd.str (Nd.enc n))] w fun e w'=>e= .returned (.int .i64 0)/\TM r (σ.put id n) w'/\Fr S w w'
 drop:∀ {r σ w} (id:Int),TM r σ w->fJ id->
  Calls Tryz.prog 264 #[.pointer (some ⟨t,0,none⟩), .int .i64 id] w fun e w'=>e= .returned (.tuple #[])/\TM r (Tp.dK σ id) w'/\Fr S w w'
section
variable {S S':Nat->Prop}{B t:Nat}{room:Int}{disk:Tp.aA}{TM:Nat->Tp.Pst->World->Prop}{w w' w'':World}{r:Nat}{σ:Tp.Pst}
theorem Fr.old(h:Fr S' w w')(hS:∀k,S' k->S k\/w.heap.size<=k):Fr S w w':=⟨h.os,h.tape,h.output,h.size,fun k hk hn=>h.block k hk (fun a=>by rcases hS k a with h1 | h1;exact hn h1;omega)⟩
theorem fU.below(M:fU S B t room disk TM)(h:TM r σ w)(hb:Below w.heap.size w w'):TM r σ w':=M.up (S':=fun _=>False) h (.of_below hb) (fun _ hk=>hk.elim)
theorem fU.own(M:fU S B t room disk TM){g:Nat}{ty:TypeId}{cs:Array Value}(h:TM r σ w)(hf:Fr (fun k=>k=g) w w')(hB:Blk w g ty cs)(hg:B<=g)(h1:ty≠64)(h2:ty≠122)(h3:ty≠119)(h4:ty≠117):TM r σ w':=
 M.up h hf (fun k hk=>by
  subst hk
  refine⟨hg,fun o ho=> ?_⟩
  have e:o= .cells cs ty:=by have:=ho.symm.trans hB;injection this
  subst e
  exact⟨fun cs' e=>by injection e with _ e;exact h1 e,fun cs' e=>by injection e with _ e;exact h2 e,fun cs' e=>by injection e with _ e;exact h3 e,fun cs' e=>by injection e with _ e;exact h4 e,fun _ _ e=>by cases e⟩)
def zo(t:Nat)(root e:Int):Array Value:= #[.pointer (some ⟨t,0,none⟩), .int .i64 root, .int .i64 e]
end
structure WI(D:Dk)(n:Nat)(c:Int->Option (Nat × Bs)):Prop where
 size:D.sure.length=n
 left:D.left= -1
 down:D.down=false
 page:∀id,aS n id=false->iH D id (c id)
def N8(c:Int->Option (Nat × Bs))(id:Int)(kind:Nat)(b:Bs):Int->Option (Nat × Bs):=fun j=>if j=id then some (kind,b)else c j
theorem WI.dW{D:Dk}{n:Nat}{c:Int->Option (Nat × Bs)}(h:WI D n c){id:Int}(hid:aS n id=false){kind:Nat}(hk:kind<256){b:Bs}(hb:b.length<=240):
  D.jc id b=0/\WI (D.dW id kind b) n (N8 c id kind b)/\(D.dW id kind b).writes=D.writes+1/\(D.dW id kind b).reads=D.reads:=by
 have hl:=h.left
 have he:D.jc id b=0:=by
  unfold Dk.jc Dk.qO
  rw[h.size,hid,h.down,hl]
  rw[if_neg (by simp),if_neg (by omega),if_neg (by simp),if_neg (by decide)]
 have hp:D.dW id kind b=D.put id (Pg.page id.toNat kind b):=by
  unfold Dk.dW Dk.wrote
  rw[h.size,hid,h.down,hl]
  rw[if_neg (by simp),if_neg (by omega),if_neg (by simp),if_neg (by decide),if_neg (by decide)]
 refine⟨he, ?_,by rw[hp];rfl,by rw[hp];rfl⟩
 rw[hp]
 refine⟨h.size,h.left,h.down,fun j hj=> ?_⟩
 by_cases e:j=id
 ·subst e
  refine .inr ⟨kind,b,hk,hb, ?_,by unfold N8;rw[if_pos rfl]⟩
  unfold Dk.get Dk.put
  simp
 ·have hg:(D.put id (Pg.page id.toNat kind b)).get j=D.get j:=by unfold Dk.get Dk.put;simp[e]
  have hq:=h.page j hj
  unfold iH at hq ⊢
  rw[hg]
  unfold N8
  rw[if_neg e]
  exact hq
def fresh(n:Nat):Dk:= { sure:=List.replicate n Bc,now:=fun _=>none,pend:= [],left:= -1,down:=false,reads:=0,writes:=0 }
theorem Zi{H:Type}{w:World}{P:Program}{k:TypeId}{R:Value->Option (DataW H × List MemPlace)}{m:Nat}(h:w.heap[m]? =some (.map #[] 0)):w.ownsMap P k R m 0 (.map []):=by
 obtain⟨es,c,h1,h2,h3,h4⟩:=World.ownsMap_made w P k R
 rw[heap_alloc_new]at h1
 injection h1 with h1
 injection h1 with h5 h6
 subst h5 h6
 exact⟨_,_,h,h2,h3,h4⟩
theorem WJ:(Value.string oG)=str Bc:=by
 have:Lib.repeatL [0] 256=Bc:=by decide +kernel
 unfold oG str
 rw[this]
theorem WL(n:Nat):kY oG n n=((fresh n).sure.map str).toArray:=by
 unfold kY fresh
 rw[Nat.sub_self,WJ]
 simp
theorem BR(k:Int)(w:World):
  Calls Tryz.prog 12 #[.int .i64 k] w fun e w'=>∃d,e= .returned (.pointer (some ⟨d,0,none⟩))/\lT w' w.heap.size d 0 (fresh (qK k))/\Below w.heap.size w w':=by
 refine(Vh k w).mono ?_
 rintro e w' ⟨d,s,m,rfl,h1,h2,h3,h4,h5,h6,h7⟩
 rw[WL]at h4
 refine⟨d,rfl,⟨s,m, .slice none 0 0, .map [],⟨h1,h2,h3⟩, ?_,h4,Zi h5,fun i z=>⟨by simp[Maps.has,fresh],by simp[DataW.atKey,fresh]⟩,LO.nil_ _ _⟩,h7⟩
 have hl:(fresh (qK k)).sure.length=qK k:=by simp[fresh]
 unfold dZ
 rw[hl]
 exact h6
theorem BU{B d k:Nat}{D:Dk}{w:World}(hd:lT w B d k D)(hB:B<=w.heap.size):Calls Tryz.prog 13 #[.pointer (some ⟨d,0,none⟩)] w fun e w'=>∃f,e= .returned (.pointer (some ⟨f,0,none⟩))/\FAt w' B f d k D/\Below w.heap.size w w':=by
 go_enter Tryz.func13,Tryz.ntmps13
 go_wp2
 go_ret
 exact⟨_,rfl,⟨hB,Blk.new w _ _,hd.keep ((Below.refl _ w).alloc (Nat.le_refl _) _)⟩,(Below.refl _ w).alloc (Nat.le_refl _) _⟩
structure DkC(D:Dk)(n:Nat)(c:Int->Option (Nat × Bs)):Prop where
 ok:WI D n c
 well:PN D
 sees:∀i:Int,0<=i->i<(n:Int)->D.get i=(jG D.sure D.pend).getD i.toNat []
theorem Zj{D:Dk}{n:Nat}{c:Int->Option (Nat × Bs)}(h:WI D n c){id:Int}(hid:aS n id=false){kind:Nat}{b:Bs}(hb:b.length<=240):D.dW id kind b=D.put id (Pg.page id.toNat kind b):=by
 unfold Dk.dW Dk.wrote
 rw[h.size,hid,h.down,h.left]
 rw[if_neg (by simp),if_neg (by omega),if_neg (by simp),if_neg (by decide),if_neg (by decide)]
theorem N9(sure:List Bs)(pend:List (Int × Bs))(x:Int × Bs):jG sure (pend++ [x])=(jG sure pend).set x.1.toNat x.2:=by
 unfold jG
 rw[List.foldl_append]
 rfl
theorem DkC.dW{D:Dk}{n:Nat}{c:Int->Option (Nat × Bs)}(h:DkC D n c){id:Int}(hid:aS n id=false){kind:Nat}(hk:kind<256){b:Bs}(hb:b.length<=240):
  D.jc id b=0/\DkC (D.dW id kind b) n (N8 c id kind b)/\(D.dW id kind b).writes=D.writes+1:=by
 obtain⟨h1,h2,h3,_⟩:=h.ok.dW hid hk hb
 have hb2:¬id<2/\¬ (n:Int)<=id:=by simpa[aS]using hid
 refine⟨h1, ?_,h3⟩
 have hp:=Zj h.ok hid (kind:=kind) hb
 have hsz:=h.ok.size
 rw[hp]at h2 ⊢
 refine⟨h2,⟨h.well.sure,fun x hx=> ?_⟩,fun i hi hn=> ?_⟩
 ·rcases List.mem_append.1 (show x∈D.pend++ [(id,Pg.page id.toNat kind b)]from hx)with hx | hx
  ·exact h.well.pend x hx
  ·obtain rfl:=List.mem_singleton.1 hx
   exact⟨Pg.yO _ _ _ hb,by show 0<=id;omega,by show id<(D.sure.length:Int);omega⟩
 ·show(D.put id (Pg.page id.toNat kind b)).get i=(jG D.sure (D.pend++ [(id,Pg.page id.toNat kind b)])).getD i.toNat []
  rw[N9]
  have hs:=h.sees i hi hn
  by_cases e:i=id
  ·subst e
   have e1:(D.put i (Pg.page i.toNat kind b)).get i=Pg.page i.toNat kind b:=by unfold Dk.get Dk.put;simp
   rw[e1,List.getD_eq_getElem?_getD,List.getElem?_set_self (by rw[sU];omega)]
   rfl
  ·have e1:(D.put id (Pg.page id.toNat kind b)).get i=D.get i:=by unfold Dk.get Dk.put;simp[e]
   rw[e1,hs,List.getD_eq_getElem?_getD,List.getD_eq_getElem?_getD,List.getElem?_set_ne (by show id.toNat≠i.toNat;omega)]
theorem DkC.synced{D:Dk}{n:Nat}{c:Int->Option (Nat × Bs)}(h:DkC D n c):DkC D.synced n c:=by
 have hsz:=h.ok.size
 refine⟨⟨by show(jG D.sure D.pend).length=n;rw[sU];exact hsz,h.ok.left,h.ok.down,fun id hid=> ?_⟩,⟨fun x hx=>E8 (n:=n) D.pend D.sure h.well.sure (fun y hy=>by have:=h.well.pend y hy;omega) x hx,fun x hx=>absurd hx List.not_mem_nil⟩,fun i hi hn=>rfl⟩
 have hb2:¬id<2/\¬ (n:Int)<=id:=by simpa[aS]using hid
 have hg:D.synced.get id=D.get id:=(h.sees id (by omega) (by omega)).symm
 have:=h.ok.page id hid
 unfold iH at this ⊢
 rw[hg]
 exact this
theorem Zk{n:Nat} :DkC (fresh n) n (fun _=>none):=by
 refine⟨⟨by simp[fresh],rfl,rfl,fun id hid=> .inl ⟨?_,rfl⟩⟩,⟨fun x hx=> ?_,fun x hx=>absurd hx List.not_mem_nil⟩,fun i _ _=>rfl⟩
 ·have hb:¬id<2/\¬ (n:Int)<=id:=by simpa[aS]using hid
  have e:(fresh n).get id=Bc:=by
   unfold Dk.get fresh
   simp only
   rw[List.getD_eq_getElem?_getD,List.getElem?_replicate]
   rw[if_pos (by omega)]
   rfl
  rw[e]
  exact V6 (by omega)
 ·have:x=Bc:=(List.mem_replicate.1 hx).2
  subst this
  decide +kernel
structure gG(D:DataW Value)(mine:List Int):Prop where
 tidy:Maps.Tidy D
 has:∀x,Maps.has D (.int .i64 x)=decide (x∈mine)
 size:Maps.size D=mine.length
theorem gG.nil_:gG (.map []) []:=⟨Maps.tidy_empty,fun _=>rfl,rfl⟩
theorem gG.adS{D:DataW Value}{mine:List Int}(h:gG D mine){id:Int}(hid:id ∉ mine)(v:DataW Value):gG (D.put (.int .i64 id) v) (mine++ [id]):=by
 refine⟨h.tidy.put (by trivial) v,fun x=> ?_, ?_⟩
 ·rw[Jw h.tidy.isMap,h.has]
  rw[Bool.eq_iff_iff]
  simp
  exact⟨fun h=>h.symm,fun h=>h.symm⟩
 ·rw[Maps.size_put h.tidy,h.has,decide_eq_false hid,if_neg (by simp),h.size];simp
theorem BX:∀ {l:List Int} {id:Int},l.Nodup->id∈l->(l.filter fun x=>x != id).length+1=l.length
 | [],_,_,h=>by cases h
 |y::l,id,hn,h=>by
  obtain⟨h1,h2⟩:=List.nodup_cons.1 hn
  rw[List.filter_cons]
  by_cases e:y=id
  ·subst e
   rw[if_neg (by simp),Rp.mV h1,List.length_cons]
  ·rw[if_pos (by simpa using e),List.length_cons,List.length_cons,BX h2 (by rcases List.mem_cons.1 h with h | h;exact absurd h.symm e;exact h)]
theorem gG.adT{D:DataW Value}{mine:List Int}(h:gG D mine)(hn:mine.Nodup)(id:Int):gG (yM D id) (mine.filter fun x=>x != id):=by
 unfold yM
 rw[h.has]
 by_cases hid:id∈mine
 ·rw[decide_eq_true hid,if_pos rfl]
  refine⟨h.tidy.del _,fun x=> ?_, ?_⟩
  ·rw[Wh,h.has,Bool.eq_iff_iff]
   simp[List.mem_filter]
   exact⟨fun h=>⟨h.2,h.1⟩,fun h=>⟨h.2,h.1⟩⟩
  ·have h1:=Maps.size_del (k:= .int .i64 id) h.tidy
   rw[h.has,decide_eq_true hid,if_pos rfl,h.size]at h1
   have h2:=BX hn hid
   omega
 ·rw[decide_eq_false hid,Rp.mV hid]
  exact h
theorem Zl{room p:Int}{fr used:List Run}{mine:List Int}{D:DataW Value}(h:Rp.Ap room fr used mine p)(hk:gG D mine)(id:Int):Rp.Ap room (wo fr D id) used (mine.filter fun x=>x != id) p:=by
 unfold wo
 rw[hk.has]
 by_cases hid:id∈mine
 ·rw[decide_eq_true hid,if_pos rfl];exact h.dropped hid
 ·rw[decide_eq_false hid,Rp.mV hid];exact h
theorem gG.adU{D:DataW Value}{mine:List Int}(h:gG D mine){id:Int}(hid:id∈mine)(v:DataW Value):gG (D.put (.int .i64 id) v) mine:=by
 refine⟨h.tidy.put (by trivial) v,fun x=> ?_, ?_⟩
 ·rw[Jw h.tidy.isMap,h.has]
  rw[Bool.eq_iff_iff]
  simp
  rintro rfl
  exact hid
 ·rw[Maps.size_put h.tidy,h.has,decide_eq_true hid,if_pos rfl,h.size]
theorem J5{w:World}{t m f n k:Nat}{free:List Run}{pages:Int}{D:DataW Value}(h:Txn w t m f n free pages k D){ids:List Int}(hk:gG D ids)(hn:ids.Nodup):ids.Perm (intKeys D):=
 CollectedI.perm (left:=fun _=>false) ⟨hn,fun x=>by rw[hk.has];simp⟩ h.map qM Tryz.underlying3 (fun _=>rfl)
section
variable {w w':World}{t m f n k:Nat}{free:List Run}{pages:Int}{D:DataW Value}{S':Nat->Prop}
theorem Txn.fr(h:Txn w t m f n free pages k D)(hf:Fr S' w w')(agb:∀b,S' b->∀o,w.heap[b]? =some o->Far o):Txn w' t m f n free pages k D:=by
 have key:∀b o,w.heap[b]? =some o->¬Far o->w'.heap[b]? =some o:=fun b o ho hn=>(hf.block b (Array.getElem?_eq_some_iff.1 ho).1 (fun a=>hn (agb b a o ho))).trans ho
 obtain⟨⟨d,h1,cs,A,c,h2,h3⟩,⟨v,h4,h5⟩,es,ck,h6,h7⟩:=h
 refine⟨⟨d,key _ _ h1 (fun a=>a.2.2.1 _ rfl),cs,A,c,key _ _ h2 (fun a=>a.2.2.2.1 _ rfl),h3⟩,⟨v,key _ _ h4 (fun a=>a.2.1 _ rfl), ?_⟩,es,ck,key _ _ h6 (fun a=>a.2.2.2.2 _ _ rfl),h7⟩
 rcases h5 with⟨e1,e2 | ⟨g,cap,cur,hv,hb,hh,hr⟩⟩
 ·exact⟨e1, .inl e2⟩
 ·exact⟨e1, .inr ⟨g,cap,cur,hv,hb,key _ _ hh (fun a=>a.1 _ rfl),hr⟩⟩
theorem Txn.tight(h:Txn w t m f n free pages k D):Txn w t m f n free pages (Maps.size D) D:=by
 obtain⟨h1,h2,es,ck,h6,h7,h8,h9⟩:=h
 refine⟨h1,h2,es,ck,h6,h7, ?_,h9⟩
 rw[h9]
 exact Nat.le_of_eq (length_read es).symm
end
section
variable {B t m f n r r':Nat}{σ:Tp.Pst}{w w':World}{S':Nat->Prop}
theorem yh:∀ (l:List Run) (lo p:Int),Rp.Canon lo l->(∀x,Rp.Mem l x->x<p)->2*(l.length:Int)<=max 0 (p-lo+1)
 | [],lo,p,_,_=>by simp;omega
 |a::l,lo,p,h,hm=>by
  obtain⟨h1,h2,h3,h4⟩:=h
  have ih:=yh l (a.2+2) p h4 (fun x ⟨b,hb,hx⟩=>hm x ⟨b,List.mem_cons_of_mem _ hb,hx⟩)
  have:=hm a.2 ⟨a,List.mem_cons_self,h2,Int.le_refl _⟩
  rw[List.length_cons]
  omega
theorem kT{room p:Int}{fr used:List Run}{mine:List Int}(h:Rp.Ap room fr used mine p):fr.length<=80000/\mine.length<=100000:=by
 have hp:=h.pg
 have h1:=yh fr 0 p h.cf (fun x hx=>(h.hf x hx).2)
 refine⟨by omega, ?_⟩
 have hsub:mine ⊆ (List.range 100000).map (fun i:Nat=>(2:Int)+(i:Int)):=fun x hx=>by
  have:=h.hm x hx
  exact List.mem_map.2 ⟨(x-2).toNat,List.mem_range.2 (by omega),by omega⟩
 have:=List.Nodup.length_le_of_subset h.nd hsub
 simpa using this
theorem Touch.fr{t m:Nat}{w w':World}(h:Touch t m w w'):Fr (fun k=>k=t\/k=m) w w':=⟨h.os,h.tape,h.output,h.size,fun k hk a=>h.block k hk (fun e=>a (.inl e)) (fun e=>a (.inr e))⟩
theorem yj(free:List Run)(pages room:Int):eY free pages room=Tp.eY free pages room:=rfl
end
structure TMc(t m f n:Nat)(used:List Run)(σ:Tp.Pst)(w:World):Prop where
 ap:Rp.Ap (max (n:Int) 2) σ.free used σ.mine σ.pages
 fit:∀id,id∈σ.mine->∀x,σ.nd id=some x->Nd.fits x=true
 txn:∃D,Txn w t m f n σ.free σ.pages σ.mine.length D/\gG D σ.mine/\∀id,id∈σ.mine->∀x,σ.nd id=some x->∀z,D.atKey (.int .i64 id) z= .held (content true (if x.leaf then 1 else 2) (Nd.str (Nd.enc x)))
section
variable {t m f n:Nat}{used:List Run}{σ:Tp.Pst}{w w':World}{S':Nat->Prop}
theorem TMc.SS(h:TMc t m f n used σ w){id:Int}(hm:id∈σ.mine):fJ id:=by
 have h1:=h.ap.hm id hm
 have h2:=h.ap.pg
 unfold fJ;omega
theorem TMc.fresh(h:TMc t m f n used σ w)(id:Int)(hid:fJ id):
  Calls Tryz.prog 296 #[.pointer (some ⟨t,0,none⟩), .int .i64 id] w fun e w'=>e= .returned (.bool (decide (id∈σ.mine)))/\Below w.heap.size w w':=by
 obtain⟨D,h4,h5,h6⟩:=h.txn
 refine(qc t m f n _ _ _ D id hid.wf w h4).mono ?_
 rintro e w1 ⟨rfl,hb⟩
 exact⟨by rw[h5.has],hb⟩
theorem TMc.get(h:TMc t m f n used σ w){id:Int}{x:Nd.Node}(hm:id∈σ.mine)(hx:σ.nd id=some x)(k:Nat)(h1:x.leaf=true->k=1)(h2:x.leaf=false->k=2):
  Calls Tryz.prog 212 #[.pointer (some ⟨t,0,none⟩), .int .i64 id, .int .u8 k] w fun e w'=>e= .returned (.tuple #[.string (Nd.str (Nd.enc x)), .int .i64 0])/\Below w.heap.size w w':=by
 obtain⟨D,h4,h5,h6⟩:=h.txn
 have hk:(if x.leaf then 1 else 2:Int)=(k:Int):=by
  cases hl:x.leaf with
  |true=>rw[h1 hl];rfl
  |false=>rw[h2 hl];rfl
 refine(Bv t m f n _ _ _ D id _ k _ (h.SS hm).wf (by rw[h5.has];exact decide_eq_true hm) (h6 id hm x hx) w h4).mono ?_
 rintro e w1 ⟨rfl,hb⟩
 rw[if_pos hk]
 exact⟨rfl,hb⟩
theorem TMc.Ia(h:TMc t m f n used σ w){id:Int}{x:Nd.Node}(hm:id∈σ.mine)(hx:σ.nd id=some x)(h2:x.leaf=false):
  Calls Tryz.prog 212 #[.pointer (some ⟨t,0,none⟩), .int .i64 id, .int .u8 1] w fun e w'=>e= .returned (.tuple #[.string ⟨#[]⟩, .int .i64 3])/\Below w.heap.size w w':=by
 obtain⟨D,h4,h5,h6⟩:=h.txn
 refine(Bv t m f n _ _ _ D id _ 1 _ (h.SS hm).wf (by rw[h5.has];exact decide_eq_true hm) (h6 id hm x hx) w h4).mono ?_
 rintro e w1 ⟨rfl,hb⟩
 rw[h2,if_neg (by decide)]
 exact⟨rfl,hb⟩
theorem TMc.put(h:TMc t m f n used σ w){id:Int}{x:Nd.Node}(hm:id∈σ.mine)(hfit:Nd.fits x=true)(k:Nat)(h1:x.leaf=true->k=1)(h2:x.leaf=false->k=2):
  Calls Tryz.prog 305 #[.pointer (some ⟨t,0,none⟩), .int .i64 id, .int .u8 k, .string (Nd.str (Nd.enc x))] w fun e w'=>e= .returned (.int .i64 0)/\TMc t m f n used (σ.put id x) w'/\Touch t m w w':=by
 obtain⟨D,h4,h5,h6⟩:=h.txn
 have hk:(k:Int)=(if x.leaf then 1 else 2:Int):=by
  cases hl:x.leaf with
  |true=>rw[h1 hl];rfl
  |false=>rw[h2 hl];rfl
 have hsm:=kT h.ap
 have hs:(Nd.str (Nd.enc x)).size<=240:=by
  have hr:=Tp.bf.1 hfit
  have:=Nd.uY hr.1
  have e:(Nd.str (Nd.enc x)).size=(Nd.enc x).length:=by simp[Nd.str,ByteArray.size]
  have:=hr.2
  omega
 refine(Vm t m f n _ _ _ D id k _ (h.SS hm).wf (by unfold maxLen;omega) (by rw[h5.has];exact decide_eq_true hm) hs w h4).mono ?_
 rintro e w1 ⟨rfl,ht,hT⟩
 have hk5:=h5.adU hm (.held (content true k (Nd.str (Nd.enc x))))
 have hT2:=hT.tight
 rw[hk5.size]at hT2
 refine⟨rfl,⟨h.ap,fun i hi y hy=> ?_,_,hT2,hk5,fun i hi y hy z=> ?_⟩,ht⟩
 ·unfold Tp.Pst.put at hy
  simp only at hy
  split at hy
  ·injection hy with hy;subst hy;exact hfit
  ·exact h.fit i hi y hy
 ·unfold Tp.Pst.put at hy
  simp only at hy
  split at hy
  ·rename_i e
   injection hy with hy
   subst hy e
   rw[Maps.atKey_put_same h5.tidy.isMap (by trivial),hk]
  ·rename_i e
   rw[Maps.atKey_put_other (fun a=>by injection a with _ a;exact e a)]
   exact h6 i hi y hy z
theorem TMc.drop(h:TMc t m f n used σ w)(id:Int)(hid:fJ id):
  Calls Tryz.prog 264 #[.pointer (some ⟨t,0,none⟩), .int .i64 id] w fun e w'=>e= .returned (.tuple #[])/\TMc t m f n used (Tp.dK σ id) w'/\Touch t m w w':=by
 obtain⟨D,h4,h5,h6⟩:=h.txn
 have hsm:=kT h.ap
 refine(Q5 t m f n _ _ _ D id hid.wf (by omega) w h4).mono ?_
 rintro e w1 ⟨rfl,ht,hT⟩
 have hk5:=h5.adT h.ap.nd id
 have hap:=Zl h.ap h5 id
 have hT2:=hT.tight
 rw[hk5.size]at hT2
 have hfr:(Tp.dK σ id).free=wo σ.free D id:=by
  unfold Tp.dK wo
  simp only[h5.has,decide_eq_true_eq]
 refine⟨rfl,⟨by rw[hfr];exact hap,fun i hi y hy=>h.fit i (List.mem_filter.1 hi).1 y hy,_,by rw[hfr];exact hT2,hk5,fun i hi y hy z=> ?_⟩,ht⟩
 have hi2:=List.mem_filter.1 hi
 have hne:i≠id:=by simpa using hi2.2
 unfold yM
 split
 ·rw[Maps.atKey_del_other (fun a=>by injection a with _ a;exact hne a)]
  exact h6 i hi2.1 y hy z
 ·exact h6 i hi2.1 y hy z
theorem TMc.alloc(h:TMc t m f n used σ w){σ':Tp.Pst}{id:Int}(ha:Tp.dF (max (n:Int) 2) σ=some (id,σ')):
  Calls Tryz.prog 30 #[.pointer (some ⟨t,0,none⟩)] w fun e w'=>e= .returned (.tuple #[.int .i64 id, .int .i64 0])/\fJ id/\id∈σ'.mine/\TMc t m f n used σ' w'/\Touch t m w w':=by
 obtain⟨D,h4,h5,h6⟩:=h.txn
 have hsm:=kT h.ap
 have hp:=h.ap.pg
 have hA:=uQ t m f n σ.mine.length σ.free σ.pages D hsm.1 (by unfold maxLen;omega) (by omega) w h4
 rw[yj]at hA
 unfold Tp.dF at ha
 cases hv:Tp.eY σ.free σ.pages (max (n:Int) 2)with
 |none=>rw[hv]at ha;cases ha
 |some o=>
  obtain⟨id',fr,p⟩:=o
  rw[hv]at ha hA
  simp only[Option.some.injEq,Prod.mk.injEq]at ha
  obtain⟨rfl,rfl⟩:=ha
  have hstep:id' ∉ σ.mine/\fJ id'/\Rp.Ap (max (n:Int) 2) fr used (σ.mine++ [id']) p:=by
   unfold Tp.eY at hv
   cases hl:Rp.least σ.free with
   |some j=>
    rw[hl]at hv
    injection hv with hv
    injection hv with e1 hv
    injection hv with e2 e3
    subst e1 e2 e3
    obtain⟨g1,g2,g3,g4,g5⟩:=h.ap.free hl
    exact⟨g1,by unfold fJ;omega,g5⟩
   |none=>
    rw[hl]at hv
    simp only at hv
    split at hv
    ·cases hv
    ·injection hv with hv
     injection hv with e1 hv
     injection hv with e2 e3
     subst e1 e2 e3
     obtain⟨g1,g2,g3⟩:=h.ap.fresh (by omega)
     exact⟨g1,by unfold fJ;omega,g3⟩
  obtain⟨g1,g2,g3⟩:=hstep
  have hk5:=h5.adS g1 (.held (content false 0 ⟨#[]⟩))
  refine hA.mono ?_
  rintro e w1 ⟨ht,rfl,hT⟩
  have hT2:=hT.tight
  rw[hk5.size]at hT2
  refine⟨rfl,g2,List.mem_append_right _ (List.mem_singleton.2 rfl),⟨g3,fun i hi y hy=> ?_,_,hT2,hk5,fun i hi y hy z=> ?_⟩,ht⟩
  ·simp only at hy
   split at hy
   ·cases hy
   ·rename_i e
    rcases List.mem_append.1 hi with hi | hi
    ·exact h.fit i hi y hy
    ·exact absurd (List.mem_singleton.1 hi) e
  ·simp only at hy
   split at hy
   ·cases hy
   ·rename_i e
    rw[Maps.atKey_put_other (fun a=>by injection a with _ a;exact e a)]
    rcases List.mem_append.1 hi with hi | hi
    ·exact h6 i hi y hy z
    ·exact absurd (List.mem_singleton.1 hi) e
theorem TMc.full(h:TMc t m f n used σ w)(ha:Tp.dF (max (n:Int) 2) σ=none):
  Calls Tryz.prog 30 #[.pointer (some ⟨t,0,none⟩)] w fun e w'=>e= .returned (.tuple #[.int .i64 0, .int .i64 2])/\TMc t m f n used σ w'/\Touch t m w w':=by
 obtain⟨D,h4,h5,h6⟩:=h.txn
 have hsm:=kT h.ap
 have hp:=h.ap.pg
 have hA:=uQ t m f n σ.mine.length σ.free σ.pages D hsm.1 (by unfold maxLen;omega) (by omega) w h4
 rw[yj]at hA
 unfold Tp.dF at ha
 cases hv:Tp.eY σ.free σ.pages (max (n:Int) 2)with
 |some o=>rw[hv]at ha;cases ha
 |none=>
  rw[hv]at hA
  refine hA.mono ?_
  rintro e w1 ⟨ht,rfl,hT⟩
  exact⟨rfl,⟨h.ap,h.fit,D,hT,h5,h6⟩,ht⟩
end
structure aT where
 B:Nat
 f:Nat
 d:Nat
 k:Nat
 s:Nat
 m:Nat
 pv:Value
 Dm:DataW Value
 D:Dk
def aT.J6(F:aT)(g:Nat):Prop:=g=F.f\/g=F.d\/g=F.s\/g=F.m\/F.pv.ownBlock=some g
def aT.At(F:aT)(w:World)(R:Int):Prop:=FDt w F.B F.f F.d F.k { F.D with reads:=R } F.s F.m F.pv F.Dm
theorem WM{α:Type}{E:Enc α}{ty:TypeId}{base:Nat}{v:Value}{l:List α}{S:Nat->Prop}{w w':World}(h:LO E ty w base v l)(hf:Fr S w w')(hS:∀g,v.ownBlock=some g->¬S g):LO E ty w' base v l:=by
 obtain⟨h1,h2⟩:=h
 refine⟨h1, ?_⟩
 rcases h2 with h2 | ⟨g,cap,cur,e1,e2,e3,e4⟩
 ·exact .inl h2
 ·exact .inr ⟨g,cap,cur,e1,e2,(hf.block g (Array.getElem?_eq_some_iff.1 e3).1 (hS g (by rw[e1];rfl))).trans e3,e4⟩
section
variable {F:aT}{w w':World}{R:Int}{S:Nat->Prop}
theorem aT.At.fr(h:F.At w R)(hf:Fr S w w')(hS:∀g,F.J6 g->¬S g):F.At w' R:=by
 obtain⟨h1,h2,h3,h4,h5,h6,h7,h8⟩:=h
 refine⟨h1,hf.blk h2 (hS _ (.inl rfl)),h3,hf.blk h4 (hS _ (.inr (.inl rfl))),hf.blk h5 (hS _ (.inr (.inr (.inl rfl)))), ?_,h7,WM h8 hf (fun g hg=>hS g (.inr (.inr (.inr (.inr hg)))))⟩
 obtain⟨es,ck,g1,g2⟩:=h6
 exact⟨es,ck,(hf.block _ (Array.getElem?_eq_some_iff.1 g1).1 (hS _ (.inr (.inr (.inr (.inl rfl)))))).trans g1,g2⟩
theorem aT.At.fileOf(h:F.At w R):qL w F.f F.D.sure.length:=⟨F.d,h.self,_,_,_,h.disk.self,rfl⟩
theorem aT.At.low(h:F.At w R):∀g,F.J6 g->g<w.heap.size:=fun g hg=>by
 rcases hg with rfl | rfl | rfl | rfl | hg
 ·exact h.self.lt
 ·exact h.disk.self.lt
 ·exact h.disk.sure.lt
 ·obtain⟨es,ck,g1,_⟩:=h.disk.map
  exact(Array.getElem?_eq_some_iff.1 g1).1
 ·rcases h.disk.pend.2 with⟨e,_⟩ | ⟨g',cap,cur,e1,e2,e3,e4⟩
  ·rw[e]at hg;cases hg
  ·rw[e1]at hg
   have:g'=g:=by injection hg
   subst this
   exact(Array.getElem?_eq_some_iff.1 e3).1
theorem Txn.read{t m n k:Nat}{free:List Run}{pages:Int}{D:DataW Value}(h:Txn w t m F.f n free pages k D)(hf:Fr (fun g=>g=F.d) w w')(h0:F.At w R){R':Int}(h1:F.At w' R')(hn:F.D.sure.length=n):Txn w' t m F.f n free pages k D:=by
 have hd:∀ {g:Nat} {o:Obj},w.heap[g]? =some o->(∀cs,o≠ .cells cs 117)->w'.heap[g]? =some o:=fun {g o} ho hn=>(hf.block g (Array.getElem?_eq_some_iff.1 ho).1 (fun e=>by
  subst e
  have e2:=ho.symm.trans h0.disk.self
  injection e2 with e2
  exact hn _ e2)).trans ho
 obtain⟨_,⟨v,h4,h5⟩,es,ck,h6,h7⟩:=h
 refine⟨hn ▸ h1.fileOf,⟨v,hd h4 (fun cs e=>by injection e with _ e;cases e), ?_⟩,es,ck,hd h6 (fun cs e=>by cases e),h7⟩
 rcases h5 with⟨e1,e2 | ⟨g,cap,cur,hv,hb,hh,hr⟩⟩
 ·exact⟨e1, .inl e2⟩
 ·exact⟨e1, .inr ⟨g,cap,cur,hv,hb,hd hh (fun cs e=>by injection e with _ e;cases e),hr⟩⟩
end
theorem J7{D:Dk}{R:Int}{id:Int}{o:Option (Nat × Bs)}(h:iH D id o):iH { D with reads:=R } id o:=h
structure BZ(F:aT)(n:Nat)(used:List Run)(disk:Tp.aA):Prop where
 size:F.D.sure.length=n
 n:n<=16384
 writes:0<=F.D.writes/\F.D.writes<1000000
 left:F.D.left= -1
 down:F.D.down=false
 pend:F.D.pend.length<=1000000
 page:∀id x,disk id=some x->Nd.fits x=true/\Rp.Mem used id/\iH F.D id (some (Nd.kind x,Nd.enc x))
theorem BZ.fine{F:aT}{n:Nat}{used:List Run}{disk:Tp.aA}(h:BZ F n used disk){R:Int}(hR:0<=R/\R<1000000000000):Fine { F.D with reads:=R } :=
 ⟨by show F.D.sure.length<=_;rw[h.size];exact h.n,⟨h.writes.1,Int.lt_trans h.writes.2 (by decide)⟩,hR,by show -1<=F.D.left/\F.D.left<=_;rw[h.left];decide,Nat.le_trans h.pend (by decide)⟩
structure TMd(F:aT)(B t m n:Nat)(used:List Run)(disk:Tp.aA)(r:Nat)(σ:Tp.Pst)(w:World):Prop where
 low:t<B/\m<B/\B<=w.heap.size
 sep:∀g,F.J6 g->g<t/\g<m
 base:1<F.B/\F.B<=t/\F.B<=m
 ht:HT w
 mem:TMc t m F.f n used σ w
 on:BZ F n used disk
 file:∃R:Int,0<=R/\R+(r:Nat)<=900000000000/\F.At w R
section
variable {F:aT}{B t m n r r':Nat}{used:List Run}{disk:Tp.aA}{σ σ':Tp.Pst}{w w':World}{S':Nat->Prop}
def SD(F:aT)(t m:Nat)(k:Nat):Prop:=k=t\/k=m\/k=F.d
theorem HT.fr{S:Nat->Prop}(h:HT w)(hf:Fr S w w')(h0:¬S 1):HT w':=by
 have hb:w'.heap[1]? =w.heap[1]? :=hf.block 1 h.1 h0
 refine⟨Nat.lt_of_lt_of_le h.1 hf.size,fun i hi=> ?_⟩
 rw[<-h.2 i hi]
 unfold World.cell?
 simp only[hb]
theorem TMd.up(h:TMd F B t m n used disk r σ w)(hf:Fr S' w w')(hS:abH B w S'):TMd F B t m n used disk r σ w':=by
 obtain⟨h1,h2,h3,h4,⟨g1,g2,D,g3,g4⟩,h6,R,r1,r2,r3⟩:=h
 have hnb:∀g,F.J6 g->¬S' g:=fun g hg a=>by have:=(h2 g hg).1;have:=(hS g a).1;omega
 exact⟨⟨h1.1,h1.2.1,Nat.le_trans h1.2.2 hf.size⟩,h2,h3,h4.fr hf (fun a=>by have:=(hS 1 a).1;omega),⟨g1,g2,D,g3.fr hf (fun b a=>(hS b a).2),g4⟩,h6,R,r1,r2,r3.fr hf hnb⟩
theorem TMd.less(h:TMd F B t m n used disk r σ w)(hr:r'<=r):TMd F B t m n used disk r' σ w:=by
 obtain⟨h1,h2,h3,h4,h5,h6,R,r1,r2,r3⟩:=h
 exact⟨h1,h2,h3,h4,h5,h6,R,r1,by omega,r3⟩
theorem TMd.below(h:TMd F B t m n used disk r σ w)(hb:Below w.heap.size w w'):TMd F B t m n used disk r σ w':=h.up (S':=fun _=>False) (.of_below hb) (fun _ a=>a.elim)
theorem TMd.touch(h:TMd F B t m n used disk r σ w)(hc:TMc t m F.f n used σ' w')(hf:Touch t m w w'):TMd F B t m n used disk r σ' w':=by
 obtain⟨h1,h2,h3,h4,_,h6,R,r1,r2,r3⟩:=h
 exact⟨⟨h1.1,h1.2.1,Nat.le_trans h1.2.2 hf.size⟩,h2,h3,h4.fr hf.fr (fun a=>by rcases a with a | a<;>omega),hc,h6,R,r1,r2,r3.fr hf.fr (fun g hg a=>by have:=h2 g hg;rcases a with rfl | rfl<;>omega)⟩
theorem Touch.sd(h:Touch t m w w'):Fr (SD F t m) w w':=h.fr.more fun k a=>by
 rcases a with a | a
 ·exact .inl a
 ·exact .inr (.inl a)
theorem jm{id:Int}{x:Nd.Node}(hv:σ.view disk id=some x):(id∈σ.mine/\σ.nd id=some x)\/(id ∉ σ.mine/\2<=id/\id<σ.pages/\Rp.has σ.free id=false/\disk id=some x):=by
 unfold Tp.Pst.view at hv
 split at hv
 ·rename_i hm;exact .inl ⟨hm,hv⟩
 ·rename_i hm
  split at hv
  ·rename_i h2;exact .inr ⟨hm,h2.1,h2.2.1,h2.2.2,hv⟩
  ·cases hv
theorem TMd.ht_(h:TMd F B t m n used disk r σ w){id:Int}{x:Nd.Node}(hv:σ.view disk id=some x):Nd.fits x=true/\fJ id:=by
 rcases jm hv with⟨h1,h2⟩ | ⟨_,h2,h3,_,h5⟩
 ·exact⟨h.mem.fit _ h1 _ h2,h.mem.SS h1⟩
 ·have:=h.mem.ap.pg
  exact⟨(h.on.page _ _ h5).1,by unfold fJ;omega⟩
theorem TMd.WO(h:TMd F B t m n used disk (r+1) σ w){id:Int}{x:Nd.Node}(h1:id ∉ σ.mine)(h2:2<=id)(h3:id<σ.pages)(h4:Rp.has σ.free id=false)(h5:disk id=some x)(k:Nat):
  Calls Tryz.prog 212 #[.pointer (some ⟨t,0,none⟩), .int .i64 id, .int .u8 k] w fun e w'=>e= .returned (if Nd.kind x=k then .tuple #[.string (Nd.str (Nd.enc x)), .int .i64 0]else .tuple #[.string ⟨#[]⟩, .int .i64 3])/\TMd F B t m n used disk r σ w'/\Fr (SD F t m) w w':=by
 obtain⟨b1,b2,b3,b4,⟨g1,g2,D,g3,g4,g5⟩,b6,R,r1,r2,r3⟩:=h
 obtain⟨p1,p2,p3⟩:=b6.page _ _ h5
 have hp:=g1.pg
 have hu:=g1.hu id p2
 have hnn:id<(n:Int):=by omega
 have hno:aS F.D.sure.length id=false:=by unfold aS;rw[b6.size];simp;omega
 have hsm:=kT g1
 have hlt:=r3.disk.self.lt
 have hle:=r3.disk.le.1
 refine(Ws t m n _ _ _ D id k (by exact(show fJ id by unfold fJ;omega).wf) (by rw[g4.has];exact decide_eq_false h1) h2 h3 h4 hsm.1 w g3 r3 (b6.fine ⟨r1,by omega⟩) b4 b3.1 (by omega) (some (Nd.kind x,Nd.enc x)) (fun _ _=>J7 p3)).mono ?_
 rintro e w' ⟨rfl,q1,q2⟩
 have hrd:Dk.bG { F.D with reads:=R } id= { F.D with reads:=R+1 } :=by
  unfold Dk.bG
  rw[if_neg (by show ¬aS F.D.sure.length id=true;rw[hno];decide),if_neg (by show ¬F.D.down=true;rw[b6.down];decide)]
 rw[hrd]at q1
 have hR:F.At w' (R+1):=q1
 refine⟨?_,⟨⟨b1.1,b1.2.1,Nat.le_trans b1.2.2 q2.size⟩,b2,b3,b4.fr q2 (fun a=>by omega),⟨g1,g2,D,g3.read q2 r3 hR b6.size,g4,g5⟩,b6,R+1,by omega,by omega,hR⟩,q2.more fun k a=> .inr (.inr a)⟩
 have e1:frB F.D.sure.length F.D.down id k (some (Nd.kind x,Nd.enc x))=if Nd.kind x=k then(Nd.enc x,0)else([],3):=by
  unfold frB
  rw[hno,b6.down]
  rfl
 show Ending.returned (.tuple #[str (frB F.D.sure.length F.D.down id k (some (Nd.kind x,Nd.enc x))).1, .int .i64 (frB F.D.sure.length F.D.down id k (some (Nd.kind x,Nd.enc x))).2])=_
 rw[e1]
 split
 ·rfl
 ·rfl
end
theorem tq(F:aT){B t m:Nat}(ht:t<B)(hm:m<B)(hd:F.d<B)(n:Nat)(used:List Run)(disk:Tp.aA):fU (SD F t m) B t (max (n:Int) 2) disk (TMd F B t m n used disk) where
 low:=fun k a=>by rcases a with rfl | rfl | rfl<;>assumption
 size:=fun h=>h.low.2.2
 up:=fun h hf hS=>h.up hf hS
 less:=fun h hr=>h.less hr
 ht:=fun h hv=>h.ht_ hv
 get:=fun {r σ w id x} h hv k h1 h2=>by
  rcases jm hv with⟨a1,a2⟩ | ⟨a1,a2,a3,a4,a5⟩
  ·refine(h.mem.get a1 a2 k h1 h2).mono ?_
   rintro e w' ⟨rfl,hb⟩
   exact⟨rfl,(h.below hb).less (Nat.le_succ _), .of_below hb⟩
  ·refine(h.WO a1 a2 a3 a4 a5 k).mono ?_
   rintro e w' ⟨rfl,hb⟩
   rw[if_pos (by unfold Nd.kind;cases hl:x.leaf with
    |true=>rw[h1 hl];rfl
    |false=>rw[h2 hl];rfl)]
   exact⟨rfl,hb⟩
 Ia:=fun {r σ w id x} h hv h2=>by
  rcases jm hv with⟨a1,a2⟩ | ⟨a1,a2,a3,a4,a5⟩
  ·refine(h.mem.Ia a1 a2 h2).mono ?_
   rintro e w' ⟨rfl,hb⟩
   exact⟨rfl,(h.below hb).less (Nat.le_succ _), .of_below hb⟩
  ·refine(h.WO a1 a2 a3 a4 a5 1).mono ?_
   rintro e w' ⟨rfl,hb⟩
   rw[if_neg (by unfold Nd.kind;rw[h2];decide)]
   exact⟨rfl,hb⟩
 fresh:=fun id h hid=>(h.mem.fresh id hid).mono (by
  rintro e w' ⟨rfl,hb⟩
  exact⟨rfl,h.below hb, .of_below hb⟩)
 alloc:=fun h ha=>(h.mem.alloc ha).mono (by
  rintro e w' ⟨rfl,h1,h2,h3,h4⟩
  exact⟨rfl,h1,h2,h.touch h3 h4,h4.sd⟩)
 full:=fun h ha=>(h.mem.full ha).mono (by
  rintro e w' ⟨rfl,h3,h4⟩
  exact⟨rfl,h.touch h3 h4,h4.sd⟩)
 put:=fun h _ hm hfit k h1 h2=>(h.mem.put hm hfit k h1 h2).mono (by
  rintro e w' ⟨rfl,h3,h4⟩
  exact⟨rfl,h.touch h3 h4,h4.sd⟩)
 drop:=fun id h hid=>(h.mem.drop id hid).mono (by
  rintro e w' ⟨rfl,h3,h4⟩
  exact⟨rfl,h.touch h3 h4,h4.sd⟩)
end Go.Proofs.YteppebbmnojapaaGreatDoor
namespace Go.Proofs.YteppebbmnojapaaGreatDoor
open Go.RowKit Go.Shelf Go.Maps
def WQ(c:Int->Option (Nat × Bs))(q:Int->Nat)(bd:Int->Bs)(ss:List Int):Int->Option (Nat × Bs):=fun i=>if i∈ss then some (q i,bd i)else c i
theorem yt{n:Nat}{q:Int->Nat}(hq:∀x,q x<256)(bd:Int->Bs)(ss:List Int):∀ (D:Dk) (c:Int->Option (Nat × Bs)),DkC D n c->(∀x∈ss,aS n x=false/\(bd x).length<=240)->
  (∃c',DkC (flQ D q bd ss) n c'/\∀i,c' i=WQ c q bd ss i)/\(flQ D q bd ss).writes=D.writes+(ss.length:Int)/\(flQ D q bd ss).reads=D.reads:=by
 induction ss with
 |nil=>intro D c h _;exact⟨⟨c,h,fun i=>by simp[WQ]⟩,by show D.writes=_;simp,rfl⟩
 |cons a r ih=>
  intro D c h hs
  obtain⟨p1,p2⟩:=hs a (List.mem_cons_self ..)
  obtain⟨_,g2,g3⟩:=h.dW p1 (hq a) p2
  have g4:=(h.ok.dW p1 (hq a) p2).2.2.2
  obtain⟨⟨c',k1,k2⟩,k3,k4⟩:=ih _ _ g2 (fun x hx=>hs x (List.mem_cons_of_mem _ hx))
  refine⟨⟨c',k1,fun i=> ?_⟩,by show(flQ (D.dW a (q a) (bd a)) q bd r).writes=_;rw[k3,g3,List.length_cons];omega,k4.trans g4⟩
  rw[k2 i]
  unfold WQ N8
  by_cases e:i=a
  ·subst e;simp
  ·simp[e]
theorem Zm{n:Nat}{q:Int->Nat}(hq:∀x,q x<256)(bd:Int->Bs)(ss:List Int){D:Dk}{c:Int->Option (Nat × Bs)}(h:DkC D n c)(hs:∀x∈ss,aS n x=false/\(bd x).length<=240)(j:Nat)(hj:j<ss.length):(flQ D q bd (ss.take j)).jc ss[j] (bd ss[j])=0:=by
 obtain⟨⟨c',k1,_⟩,_⟩:=yt (n:=n) hq bd (ss.take j) D c h (fun x hx=>hs x (List.mem_of_mem_take hx))
 obtain⟨p1,p2⟩:=hs _ (List.getElem_mem hj)
 exact(k1.dW p1 (hq ss[j]) p2).1
theorem DkC.rd{D:Dk}{n:Nat}{c:Int->Option (Nat × Bs)}(h:DkC D n c)(R:Int):DkC { D with reads:=R } n c:=⟨⟨h.ok.size,h.ok.left,h.ok.down,h.ok.page⟩,⟨h.well.sure,h.well.pend⟩,h.sees⟩
structure FOn(F:aT)(n:Nat)(disk:Tp.aA)(N:Nat):Prop where
 hn:n<=16384
 c:∃c,DkC F.D n c/\∀id x,disk id=some x->Nd.fits x=true/\aS n id=false/\c id=some (Nd.kind x,Nd.enc x)
 writes:0<=F.D.writes/\F.D.writes<=N
 pend:F.D.pend.length<=N
theorem FOn.on{F:aT}{n N:Nat}{disk:Tp.aA}(h:FOn F n disk N)(hN:N<1000000){used:List Run}(hu:∀id x,disk id=some x->Rp.Mem used id):BZ F n used disk:=by
 obtain⟨c,h1,h2⟩:=h.c
 refine⟨h1.ok.size,h.hn,⟨h.writes.1,by have:=h.writes.2;omega⟩,h1.ok.left,h1.ok.down,by have:=h.pend;omega,fun id x hx=> ?_⟩
 obtain⟨g1,g2,g3⟩:=h2 id x hx
 refine⟨g1,hu id x hx, ?_⟩
 rw[<-g3]
 exact h1.ok.page id g2
def flushed(disk:Tp.aA)(σ:Tp.Pst):Tp.aA:=fun id=>if id∈σ.mine then σ.nd id else disk id
def ndK(σ:Tp.Pst)(id:Int):Nat:=match σ.nd id with
 |some x=>Nd.kind x
 |none=>0
def ndB(σ:Tp.Pst)(id:Int):Bs:=match σ.nd id with
 |some x=>Nd.enc x
 |none=> []
theorem qp(σ:Tp.Pst)(id:Int):ndK σ id<256:=by
 unfold ndK
 split
 ·unfold Nd.kind;split<;>decide
 ·decide
structure jW(F:aT)(n:Nat)(disk:Tp.aA)(N r:Nat)(w:World)(F':aT)(w':World):Prop where
 same:F'.B=F.B/\F'.f=F.f/\F'.d=F.d/\F'.s=F.s/\F'.m=F.m/\F'.k=0/\F'.pv= .slice none 0 0/\F'.D.pend= []
 on:FOn F' n disk N
 file:∃R:Int,0<=R/\R+(r:Nat)<=900000000000/\F'.At w' R
 below:Below F.B w w'
 blk:∀ (g:Nat) (t:TypeId) (cs:Array Value),Blk w g t cs->t≠117->t≠230->g≠F.s->Blk w' g t cs
 map:∀g es c,g≠F.m->w.heap[g]? =some (.map es c)->w'.heap[g]? =some (.map es c)
theorem SX{F:aT}{B t m n r N:Nat}{used:List Run}{disk:Tp.aA}{σ:Tp.Pst}{w:World}(h:TMd F B t m n used disk r σ w)(hd:FOn F n disk N)(hN:N+2000<90000)(hk:F.k+1000<maxLen)(hnd:∀id,id∈σ.mine->∃x,σ.nd id=some x)(hml:σ.mine.length<=1000):
  Calls Tryz.prog 16 #[.pointer (some ⟨t,0,none⟩)] w fun e w'=>e= .returned (.int .i64 0)/\∃F',jW F n (flushed disk σ) (N+σ.mine.length) r w F' w':=by
 obtain⟨b1,b2,b3,b4,⟨g1,g2,D,g3,g4,g5⟩,b6,R,r1,r2,r3⟩:=h
 obtain⟨c,c1,c2⟩:=hd.c
 have hw1:=hd.writes
 have hp1:=hd.pend
 have hpm:σ.mine.Perm (intKeys D):=J5 g3 g4 g1.nd
 have hpg:=g1.pg
 have hno:∀x∈σ.mine,aS n x=false:=fun x hx=>by
  have:=g1.hm x hx
  unfold aS;simp;omega
 have hbl:∀x∈σ.mine,(ndB σ x).length<=240:=fun x hx=>by
  obtain⟨y,hy⟩:=hnd x hx
  have hr:=Tp.bf.1 (g2 x hx y hy)
  have:=Nd.uY hr.1
  unfold ndB;rw[hy];simp only;have:=hr.2;omega
 have hmem:∀ {ss:List Int},ss.Perm (intKeys D)->∀x,x∈ss ↔ x∈σ.mine:=fun {ss} hs x=>by rw[hs.mem_iff,hpm.mem_iff]
 have hDR:=c1.rd R
 have hsz:=c1.ok.size
 have e0:w.cell? ⟨F.d,0,none⟩=some (.slice (some ⟨F.s,0,none⟩) F.D.sure.length F.D.sure.length):=r3.disk.self.cell 0
 have e1:w.cell? ⟨F.d,1,none⟩=some (.map (some F.m)):=r3.disk.self.cell 1
 rw[hsz]at e0
 have hsep:=b2 F.m (.inr (.inr (.inr (.inl rfl))))
 have hle:=r3.disk.le.1
 refine(Wv (N:=900000001000) (ndK σ) (qp σ) (ndB σ) g3 r3.fat (show F.D.sure.length=n from hsz) e0 e1 (by omega)
  ⟨by show F.D.sure.length<=_;rw[hsz];exact hd.hn,⟨hw1.1,by show F.D.writes<=_;omega⟩,⟨r1,by show R<=_;omega⟩,by show -1<=F.D.left/\F.D.left<=9223372036854775807;rw[c1.ok.left];decide,by show F.D.pend.length<=_;omega⟩ (by omega) hml hk b4 b3.1 (by omega)
  (fun x hx=> ?_) (fun ss hs j hj=>Zm (qp σ) (ndB σ) ss hDR (fun x hx=>⟨hno x ((hmem hs x).1 hx),hbl x ((hmem hs x).1 hx)⟩) j hj) (fun ss hs=> ?_)).mono ?_
 ·have hxm:x∈σ.mine:=hpm.mem_iff.2 hx
  have hi:=(TMc.SS (t:=t) (m:=m) (f:=F.f) (w:=w) ⟨g1,g2,D,g3,g4,g5⟩ hxm).wf
  obtain⟨y,hy⟩:=hnd x hxm
  refine⟨hi,fun z=> ?_⟩
  rw[g5 x hxm y hy z]
  unfold ndK ndB Nd.kind
  rw[hy]
  show DataW.held (content true (if y.leaf then 1 else 2) (Nd.str (Nd.enc y)))=DataW.held (content true (((if y.leaf=true then 1 else 2:Nat):Nat):Int) (Nd.str (Nd.enc y)))
  cases y.leaf<;>rfl
 ·obtain⟨⟨c',k1,_⟩,_⟩:=yt (n:=n) (qp σ) (ndB σ) ss _ c hDR (fun x hx=>⟨hno x ((hmem hs x).1 hx),hbl x ((hmem hs x).1 hx)⟩)
  exact⟨k1.well,k1.ok.down⟩
 ·rintro e w' ⟨ss,hs,rfl,q1,q2,q3,q4⟩
  obtain⟨⟨c',k1,k2⟩,k3,k4⟩:=yt (n:=n) (qp σ) (ndB σ) ss _ c hDR (fun x hx=>⟨hno x ((hmem hs x).1 hx),hbl x ((hmem hs x).1 hx)⟩)
  have hsl:ss.length=σ.mine.length:=by rw[hs.length_eq,hpm.length_eq]
  obtain⟨D',hD'⟩:∃D',D'=(flQ { F.D with reads:=R } (ndK σ) (ndB σ) ss).synced:=⟨_,rfl⟩
  have h1:D'.reads=R:=by rw[hD'];exact k4
  have h2:D'.writes=F.D.writes+(ss.length:Int):=by rw[hD'];exact k3
  have h3:D'.pend= []:=by rw[hD'];rfl
  have h4:DkC D' n c':=by rw[hD'];exact k1.synced
  rw[<-hD']at q1
  have h5:({ D' with reads:=R } :Dk)=D':=by subst h1;rfl
  refine⟨rfl, { F with k:=0,pv:= .slice none 0 0,Dm:= .map [],D:=D' },⟨⟨rfl,rfl,rfl,rfl,rfl,rfl,rfl,h3⟩,⟨hd.hn,⟨c',h4,fun id x hx=> ?_⟩,by show 0<=D'.writes/\D'.writes<=_;omega,by show D'.pend.length<=_;rw[h3];simp⟩,⟨R,r1,r2, ?_⟩,q2,q3,q4⟩⟩
  ·unfold flushed at hx
   rw[k2 id]
   unfold WQ
   split at hx
   ·rename_i hm
    rw[if_pos ((hmem hs id).2 hm)]
    refine⟨g2 id hm x hx,hno id hm, ?_⟩
    unfold ndK ndB
    rw[hx]
   ·rename_i hm
    rw[if_neg (fun a=>hm ((hmem hs id).1 a))]
    exact c2 id x hx
  ·show FDt w' F.B F.f F.d 0 { D' with reads:=R } F.s F.m (.slice none 0 0) (.map [])
   rw[h5];exact q1
end Go.Proofs.YteppebbmnojapaaGreatDoor
namespace Go.Proofs.YteppebbmnojapaaGreatDoor
open Go.RowKit Go.Shelf
section
variable {S:Nat->Prop}{B t:Nat}{room:Int}{disk:Tp.aA}{TM:Nat->Tp.Pst->World->Prop}
structure On(S:Nat->Prop)(B t u:Nat)(TM:Nat->Tp.Pst->World->Prop)(root e:Int)(r:Nat)(σ:Tp.Pst)(w:World):Prop where
 tm:TM r σ w
 self:Blk w u 134 (zo t root e)
 hu:B<=u
section
variable {root e:Int}{r:Nat}{σ σ':Tp.Pst}{w w':World}{u:Nat}
theorem On.below(M:fU S B t room disk TM)(h:On S B t u TM root e r σ w)(hb:Below w.heap.size w w'):On S B t u TM root e r σ w':=⟨M.below h.tm hb,h.self.below hb h.self.lt,h.hu⟩
theorem On.step(M:fU S B t room disk TM)(h:On S B t u TM root e r σ w){r':Nat}(ht:TM r' σ' w')(hf:Fr S w w'):On S B t u TM root e r' σ' w':=⟨ht,hf.blk h.self (fun a=>by have:=M.low u a;have:=h.hu;omega),h.hu⟩
theorem On.own(M:fU S B t room disk TM)(h:On S B t u TM root e r σ w){g:Nat}{ty:TypeId}{cs:Array Value}(hf:Fr (fun k=>k=g) w w')(hB:Blk w g ty cs)(hg:B<=g)(h0:g≠u)(h1:ty≠64)(h2:ty≠122)(h3:ty≠119)(h4:ty≠117):On S B t u TM root e r σ w':=
 ⟨M.own h.tm hf hB hg h1 h2 h3 h4,hf.blk h.self (fun a=>h0 a.symm),h.hu⟩
theorem On.less(M:fU S B t room disk TM)(h:On S B t u TM root e r σ w){r':Nat}(hr:r'<=r):On S B t u TM root e r' σ w:=⟨M.less h.tm hr,h.self,h.hu⟩
end
theorem fU.far(M:fU S B t room disk TM){g:Nat}(hg:B<=g):¬S g:=fun a=>by have:=M.low g a;omega
def Ib(S:Nat->Prop)(B t u:Nat)(TM:Nat->Tp.Pst->World->Prop)(root er:Int)(r:Nat)(σ:Tp.Pst)(n:Nd.Node)(w:World)(e:Ending)(w':World):Prop:=
 ∃v,e= .returned (.tuple #[v, .int .i64 0])/\NF w.heap.size w' v n/\On S B t u TM root er r σ w'/\Fr S w w'
theorem pq(M:fU S B t room disk TM)(u:Nat)(root er:Int)(r:Nat)(σ:Tp.Pst)(id:Int)(d:Nat)(n:Nd.Node)(hv:σ.view disk id=some n)(hd:d<24)(w:World)(h:On S B t u TM root er (r+2) σ w):
  Calls Tryz.prog 143 #[.pointer (some ⟨u,0,none⟩), .int .i64 id, .int .i64 (d:Nat)] w (Ib S B t u TM root er r σ n w):=by
 obtain⟨hfit,adV⟩:=M.ht h.tm hv
 have hb1:=(Below.refl w.heap.size w).alloc (Nat.le_refl _) (.cells #[.bool false, .slice none 0 0, .slice none 0 0, .slice none 0 0] 146)
 have h1:=h.below M hb1
 have hBg:=Blk.new w 146 #[.bool false, .slice none 0 0, .slice none 0 0, .slice none 0 0]
 have hsz:=M.size h.tm
 have hd1:¬24<=(d:Int):=by omega
 have c0:(w.alloc (.cells #[.bool false, .slice none 0 0, .slice none 0 0, .slice none 0 0] 146)).cell? ⟨u,0,none⟩=some (.pointer (some ⟨t,0,none⟩)):=h1.self.cell 0
 have lu:=h1.self.lt
 have hun:u<w.heap.size:=h.self.lt
 have jP:=Lib.hid hfit
 have HM:=Lib.hid M
 have HV:=Lib.hid hv
 cases hlf:n.leaf with
 |true=>
  have hG:=Lib.hid (fun W (hW:TM (r+1+1) σ W)=>M.get hW hv 1 (fun _=>rfl) (fun h=>by rw[hlf]at h;cases h))
  have hk:Nd.kind n=1:=by unfold Nd.kind;rw[if_pos hlf]
  have hD:=Lib.hid (fun W=>jC n hfit W)
  rw[hk]at hD
  generalize Nd.str (Nd.enc n)=s at*
  have H1:=Lib.hid h1
  have HBG:=Lib.hid hBg
  have HB1:=Lib.hid hb1
  clear hlf hk h1 hBg hb1 hfit hv h M
  go_enter Tryz.func143,Tryz.ntmps143
  go_wp2_with fail
  refine(hG.out _ H1.out.tm).mono ?_
  rintro e w1 ⟨rfl,ht1,hf1⟩
  have h1:=H1.out.step HM.out ht1 hf1
  have hBg:=hf1.blk HBG.out (HM.out.far hsz)
  have hfw:Fr S w w1:=(Fr.of_below HB1.out).trans hf1
  have hz1:=hf1.size
  have H2:=Lib.hid h1
  have HBG:=Lib.hid hBg
  have HFW:=Lib.hid hfw
  clear ht1 hf1 h1 hBg hfw
  simp only[World.size_alloc]at hz1
  go_wp2_with fail
  refine(hD.out _).mono ?_
  rintro e w2 ⟨v,rfl,hnf,hb2⟩
  have hz2:=hb2.size
  have h2:=H2.out.below HM.out hb2
  have hBg:=HBG.out.below hb2 HBG.out.lt
  have hfw:=HFW.out.trans (.of_below hb2)
  obtain⟨A1,k1,A2,k2,A3,k3,rfl,rr⟩:=hnf
  have f0:=hBg.frozen 0
  have f1:=hBg.frozen 1
  have f2:=hBg.frozen 2
  have f3:=hBg.frozen 3
  have c0:=hBg.cell 0
  have c1:=hBg.cell 1
  have c2:=hBg.cell 2
  have c3:=hBg.cell 3
  have lg:=hBg.lt
  have H3:=Lib.hid h2
  have HBG:=Lib.hid hBg
  have HFW:=Lib.hid hfw
  have HRR:=Lib.hid rr
  clear h2 hBg hfw rr hb2
  unfold aP
  go_wp2
  try simp only[Exit.inBlock,Exit.then]
  refine bodyPost_ret (aO aN rfl rfl (HBG.out.kS _ _ _ _) rfl) rfl ?_
  have hfr:∀a b c d,Fr (fun k=>k=w.heap.size) w2 _:=fun a b c d=>Fr.kS (w:=w2) (g:=w.heap.size) (S:=fun k=>k=w.heap.size) rfl a b c d
  exact⟨_,rfl,NF.lower (NF.fr ⟨A1,k1,A2,k2,A3,k3,rfl,HRR.out⟩ (hfr _ _ _ _) (fun k hk=>by omega)) (by omega),(H3.out.less HM.out (Nat.le_succ _)).own HM.out (hfr _ _ _ _) HBG.out hsz (by omega) (by decide) (by decide) (by decide) (by decide),Fr.old (S':=fun k=>S k\/k=w.heap.size) ((HFW.out.more fun _=> .inl).trans ((hfr _ _ _ _).more fun _=> .inr)) (fun k hk=>hk.imp_right fun e=>by omega)⟩
 |false=>
  have hN:=Lib.hid (fun W (hW:TM (r+1+1) σ W)=>M.Ia hW hv hlf)
  have hG:=Lib.hid (fun W (hW:TM (r+1) σ W)=>M.get hW hv 2 (fun h=>by rw[hlf]at h;cases h) (fun _=>rfl))
  have hk:Nd.kind n=2:=by unfold Nd.kind;rw[if_neg (by rw[hlf];simp)]
  have hD:=Lib.hid (fun W=>jC n hfit W)
  rw[hk]at hD
  generalize Nd.str (Nd.enc n)=s at*
  have H1:=Lib.hid h1
  have HBG:=Lib.hid hBg
  have HB1:=Lib.hid hb1
  clear hlf hk h1 hBg hb1 hfit hv h M
  go_enter Tryz.func143,Tryz.ntmps143
  go_wp2_with fail
  refine(hN.out _ H1.out.tm).mono ?_
  rintro e w0 ⟨rfl,ht0,hf0⟩
  have h0:=H1.out.step HM.out ht0 hf0
  have c00:w0.cell? ⟨u,0,none⟩=some (.pointer (some ⟨t,0,none⟩)):=h0.self.cell 0
  have lu0:=h0.self.lt
  have H0:=Lib.hid h0
  have HF0:=Lib.hid hf0
  have hz0:=hf0.size
  simp only[World.size_alloc]at hz0
  clear ht0 hf0 h0
  go_wp2_with fail
  refine(hG.out _ H0.out.tm).mono ?_
  rintro e w1 ⟨rfl,ht1,hf1⟩
  have h1:=H0.out.step HM.out ht1 hf1
  have hBg:=(HF0.out.trans hf1).blk HBG.out (HM.out.far hsz)
  have hfw:Fr S w w1:=((Fr.of_below HB1.out).trans HF0.out).trans hf1
  have hz1:=hf1.size
  have H2:=Lib.hid h1
  have HBG:=Lib.hid hBg
  have HFW:=Lib.hid hfw
  clear ht1 hf1 h1 hBg hfw
  go_wp2_with fail
  refine(hD.out _).mono ?_
  rintro e w2 ⟨v,rfl,hnf,hb2⟩
  have hz2:=hb2.size
  have h2:=H2.out.below HM.out hb2
  have hBg:=HBG.out.below hb2 HBG.out.lt
  have hfw:=HFW.out.trans (.of_below hb2)
  obtain⟨A1,k1,A2,k2,A3,k3,rfl,rr⟩:=hnf
  have f0:=hBg.frozen 0
  have f1:=hBg.frozen 1
  have f2:=hBg.frozen 2
  have f3:=hBg.frozen 3
  have c0:=hBg.cell 0
  have c1:=hBg.cell 1
  have c2:=hBg.cell 2
  have c3:=hBg.cell 3
  have lg:=hBg.lt
  have H3:=Lib.hid h2
  have HBG:=Lib.hid hBg
  have HFW:=Lib.hid hfw
  have HRR:=Lib.hid rr
  clear h2 hBg hfw rr hb2
  unfold aP
  go_wp2
  try simp only[Exit.inBlock,Exit.then]
  refine bodyPost_ret (aO aN rfl rfl (HBG.out.kS _ _ _ _) rfl) rfl ?_
  have hfr:∀a b c d,Fr (fun k=>k=w.heap.size) w2 _:=fun a b c d=>Fr.kS (w:=w2) (g:=w.heap.size) (S:=fun k=>k=w.heap.size) rfl a b c d
  exact⟨_,rfl,NF.lower (NF.fr ⟨A1,k1,A2,k2,A3,k3,rfl,HRR.out⟩ (hfr _ _ _ _) (fun k hk=>by omega)) (by omega),H3.out.own HM.out (hfr _ _ _ _) HBG.out hsz (by omega) (by decide) (by decide) (by decide) (by decide),Fr.old (S':=fun k=>S k\/k=w.heap.size) ((HFW.out.more fun _=> .inl).trans ((hfr _ _ _ _).more fun _=> .inr)) (fun k hk=>hk.imp_right fun e=>by omega)⟩
end
theorem J8(v:Value)(n:Nd.Node)(hfit:Nd.fits n=true)(w:World)(h:NS w v n)(hb:NB n):
  Calls Tryz.prog 304 #[v] w fun e w'=>e= .returned (.tuple #[.int .u8 (Nd.kind n:Nat), .string (Nd.str (Nd.enc n)), .int .i64 0])/\Below w.heap.size w w':=by
 have h0:=h
 obtain⟨Ae,ce,Ai,ci,Ay,cy,rfl,h1,h2,h3⟩:=h
 cases hlf:n.leaf with
 |true=>
  have hk:Nd.kind n=1:=by unfold Nd.kind;rw[if_pos hlf]
  rw[hk]
  rw[hlf]at h0
  exact Hl Ae Ai Ay ce ci cy n hlf hfit w h0 h1 hb
 |false=>
  have hk:Nd.kind n=2:=by unfold Nd.kind;rw[if_neg (by rw[hlf];simp)]
  rw[hk]
  rw[hlf]at h0
  exact Ec Ae Ai Ay ce ci cy n hlf hfit w h0 h2 h3 hb
section
variable {S:Nat->Prop}{B t:Nat}{room:Int}{disk:Tp.aA}{TM:Nat->Tp.Pst->World->Prop}
def PY(S:Nat->Prop)(B t u:Nat)(TM:Nat->Tp.Pst->World->Prop)(root er:Int)(r:Nat)(o:Except Int Int × Tp.Pst)(w:World)(e:Ending)(w':World):Prop:=
 ∃p x:Int,e= .returned (.tuple #[.int .i64 p, .int .i64 x])/\((o.1= .ok p/\x=0/\fJ p)\/(o.1= .error 2/\x=2))/\On S B t u TM root er r o.2 w'/\Fr S w w'
theorem J9(M:fU S B t room disk TM)(u:Nat)(root er:Int)(r:Nat)(σ:Tp.Pst)(id:Int)(hid:fJ id)(v:Value)(n:Nd.Node)(hfit:Nd.fits n=true)(w:World)(hns:NS w v n)(h:On S B t u TM root er r σ w):
  Calls Tryz.prog 267 #[.pointer (some ⟨u,0,none⟩), .int .i64 id,v] w (PY S B t u TM root er r (Tp.dY room σ id n) w):=by
 have hnb:=iT hfit
 obtain⟨Ae,ce,Ai,ci,Ay,cy,rfl,q1,q2,q3⟩:=hns
 unfold aP
 have hb1:=(Below.refl w.heap.size w).alloc (Nat.le_refl _) (.cells #[.bool n.leaf, .slice Ae n.ents.length ce, .slice Ai n.kids.length ci, .slice Ay n.keys.length cy] 146)
 have hE:=Lib.hid (fun W (hbW:Below w.heap.size w W)=>J8 (.agg #[.bool n.leaf, .slice Ae n.ents.length ce, .slice Ai n.kids.length ci, .slice Ay n.keys.length cy]) n hfit W ⟨Ae,ce,Ai,ci,Ay,cy,rfl,q1.up hbW,q2.up hbW,q3.up hbW⟩ hnb)
 have hBg:=Blk.new w 146 #[.bool n.leaf, .slice Ae n.ents.length ce, .slice Ai n.kids.length ci, .slice Ay n.keys.length cy]
 have lg:=hBg.lt
 have g0:=hBg.cell 0
 have g1:=hBg.cell 1
 have g2:=hBg.cell 2
 have g3:=hBg.cell 3
 have hsz:=M.size h.tm
 have HM:=Lib.hid M
 have adW:n.leaf=true->Nd.kind n=1:=fun h=>by unfold Nd.kind;rw[if_pos h]
 have adX:n.leaf=false->Nd.kind n=2:=fun h=>by unfold Nd.kind;rw[if_neg (by rw[h];simp)]
 have Zn:=Lib.hid (fun σ id W (hT:TM r σ W) (h1:fJ id) (h2:id∈σ.mine)=>M.put hT h1 h2 hfit (Nd.kind n) adW adX)
 generalize Nd.str (Nd.enc n)=s at*
 generalize Nd.kind n=kd at*
 have H1:=Lib.hid (h.below M hb1)
 have HB1:=Lib.hid hb1
 have jP:=Lib.hid hfit
 obtain⟨o,ho⟩:∃o,o=Tp.dY room σ id n:=⟨_,rfl⟩
 rw[<-ho]
 have HO:=Lib.hid ho
 have HFR:=Lib.hid (fun r σ W (hT:TM r σ W)=>M.fresh id hT hid)
 have HID:=Lib.hid hid
 clear hb1 hBg adW adX hnb hfit h M ho hid q1 q2 q3
 go_enter Tryz.func267,Tryz.ntmps267
 go_wp2_with fail
 refine(hE.out _ HB1.out).mono ?_
 rintro e w1 ⟨rfl,hb2⟩
 have h2:=H1.out.below HM.out hb2
 have c0:w1.cell? ⟨u,0,none⟩=some (.pointer (some ⟨t,0,none⟩)):=h2.self.cell 0
 have lu:=h2.self.lt
 have hfw:Fr S w w1:=(Fr.of_below HB1.out).trans (.of_below hb2)
 have H2:=Lib.hid h2
 have HF:=Lib.hid hfw
 clear h2 hfw hb2 g0 g1 g2 g3 lg
 go_wp2_with fail
 refine(HFR.out _ _ _ H2.out.tm).mono ?_
 rintro e w2 ⟨rfl,ht2,hf2⟩
 have h3:=H2.out.step HM.out ht2 hf2
 have c0:w2.cell? ⟨u,0,none⟩=some (.pointer (some ⟨t,0,none⟩)):=h3.self.cell 0
 have lu:=h3.self.lt
 have hfw:Fr S w w2:=HF.out.trans hf2
 have H3:=Lib.hid h3
 have HF3:=Lib.hid hfw
 clear h3 hfw ht2 hf2
 by_cases hm:id∈σ.mine
 ·have hdm:decide (id∈σ.mine)=true:=decide_eq_true hm
  rw[hdm]
  have HP:=Lib.hid (Zn.out σ id w2 H3.out.tm HID.out hm)
  have hoo:o=(.ok id,σ.put id n):=by rw[HO.out];unfold Tp.dY;rw[if_neg (by rw[jP.out];simp),if_pos hm]
  have HOO:=Lib.hid hoo
  clear hm hdm hoo
  go_wp2_with fail
  refine HP.out.mono ?_
  rintro e w3 ⟨rfl,ht3,hf3⟩
  have aZ:=Lib.hid (show On S B t u TM root er r o.2 w3/\Fr S w w3 from⟨by rw[HOO.out];exact H3.out.step HM.out ht3 hf3,HF3.out.trans hf3⟩)
  clear ht3 hf3
  go_wp2
  go_ret2
  exact⟨id,0,rfl, .inl ⟨by rw[HOO.out],rfl,HID.out⟩,aZ.out⟩
 ·have hdm:decide (id∈σ.mine)=false:=decide_eq_false hm
  rw[hdm]
  cases ha:Tp.dF room σ with
  |none=>
   have hA:=Lib.hid (HM.out.full H3.out.tm ha)
   have hoo:o=(.error 2,σ):=by rw[HO.out];unfold Tp.dY;rw[if_neg (by rw[jP.out];simp),if_neg hm,ha]
   have HOO:=Lib.hid hoo
   clear hm hdm ha hoo
   go_wp2_with fail
   refine hA.out.mono ?_
   rintro e w3 ⟨rfl,ht3,hf3⟩
   have aZ:=Lib.hid (show On S B t u TM root er r o.2 w3/\Fr S w w3 from⟨by rw[HOO.out];exact H3.out.step HM.out ht3 hf3,HF3.out.trans hf3⟩)
   clear ht3 hf3
   go_wp2
   go_ret2
   exact⟨0,2,rfl, .inr ⟨by rw[HOO.out],rfl⟩,aZ.out⟩
  |some p=>
   obtain⟨id',σ'⟩:=p
   have hA:=Lib.hid (HM.out.alloc H3.out.tm ha)
   have hoo:o=(.ok id',σ'.put id' n):=by rw[HO.out];unfold Tp.dY;rw[if_neg (by rw[jP.out];simp),if_neg hm,ha]
   have HOO:=Lib.hid hoo
   clear hm hdm ha hoo
   go_wp2_with fail
   refine hA.out.mono ?_
   rintro e w3 ⟨rfl,abI,hmem,ht3,hf3⟩
   have h4:=H3.out.step HM.out ht3 hf3
   have c0:w3.cell? ⟨u,0,none⟩=some (.pointer (some ⟨t,0,none⟩)):=h4.self.cell 0
   have lu:=h4.self.lt
   have HP:=Lib.hid (Zn.out σ' id' w3 ht3 abI hmem)
   have H4:=Lib.hid h4
   have HF4:=Lib.hid (HF3.out.trans hf3)
   have agc:=Lib.hid abI
   clear h4 ht3 hf3 hmem abI
   go_wp2_with fail
   refine HP.out.mono ?_
   rintro e w4 ⟨rfl,ht4,hf4⟩
   have aZ:=Lib.hid (show On S B t u TM root er r o.2 w4/\Fr S w w4 from⟨by rw[HOO.out];exact H4.out.step HM.out ht4 hf4,HF4.out.trans hf4⟩)
   clear ht4 hf4
   go_wp2
   go_ret2
   exact⟨id',0,rfl, .inl ⟨by rw[HOO.out],rfl,agc.out⟩,aZ.out⟩
end
end Go.Proofs.YteppebbmnojapaaGreatDoor
namespace Tp
open Nd En
def cnt(n:Node):Nat:=n.ents.length+n.kids.length
structure PB(p:Part)(L:Nat):Prop where
 len:p.1.length<=L
 keys:p.2.length=p.1.length-1
 ks:∀k∈p.2,k.size<=16
theorem PB.nil(L:Nat):PB ([], []) L:=⟨Nat.zero_le _,rfl,fun _ h=>by cases h⟩
theorem PB.one(i:Int){L:Nat}(h:1<=L):PB ([i], []) L:=⟨h,rfl,fun _ h=>by cases h⟩
theorem PB.mono{p:Part}{L L':Nat}(h:PB p L)(hl:L<=L'):PB p L':=⟨Nat.le_trans h.len hl,h.keys,h.ks⟩
theorem PB.join{p q:Part}{L L':Nat}(h:PB p L)(h':PB q L')(k:Str)(hk:k.size<=16)(hp:0<p.1.length)(hq:0<q.1.length):PB (p.1++q.1,p.2++ [k]++q.2) (L+L'):=by
 refine⟨by rw[List.length_append];have:=h.len;have:=h'.len;omega, ?_,fun x hx=> ?_⟩
 ·have:=h.keys
  have:=h'.keys
  simp only[List.length_append,List.length_cons,List.length_nil]
  omega
 ·rcases List.mem_append.1 hx with hx | hx
  ·rcases List.mem_append.1 hx with hx | hx
   ·exact h.ks x hx
   ·rw[List.mem_singleton]at hx;subst hx;exact hk
  ·exact h'.ks x hx
theorem Ko{l:List Str}(h:∀k∈l,k.size<=16):aF l<=21*l.length:=by
 induction l with
 |nil=>simp[aF]
 |cons x l ih=>
  rw[gu,List.length_cons]
  have:=ih fun y hy=>h y (List.mem_cons_of_mem _ hy)
  have:=h x List.mem_cons_self
  unfold ksz;omega
theorem rF{n:Node}{q:Node × Str × Node}(h:Nd.split n=some q):Nd.right n=true/\¬ (n.ents.length<2/\n.kids.length<2):=by
 unfold Nd.split at h
 by_cases hc:Nd.right n=false\/(n.ents.length<2/\n.kids.length<2)
 ·rw[if_pos hc]at h;cases h
 ·exact⟨by cases hr:Nd.right n with
   |true=>rfl
   |false=>exact absurd (.inl hr) hc,fun h2=>hc (.inr h2)⟩
theorem rG{n a b:Node}{k:Str}(h:Nd.split n=some (a,k,b)):cnt a+cnt b=cnt n/\0<cnt a/\0<cnt b/\0<k.size/\k.size<=16/\a.ents.Sublist n.ents/\b.ents.Sublist n.ents/\a.keys.Sublist n.keys/\b.keys.Sublist n.keys:=by
 obtain⟨hr,h2⟩:=rF h
 unfold Nd.split at h
 rw[if_neg (by rw[hr];rintro(h | h); · cases h
               ·exact h2 h)]at h
 obtain⟨leaf,ents,kids,keys⟩:=n
 cases leaf with
 |true=>
  obtain⟨r1,rfl,rfl⟩:=eP.1 hr
  simp only[if_true]at h
  have hm:=((En.bF ents).1 r1).1
  simp only[List.length_nil]at h2
  have hl:=iM ents
  obtain⟨j,g1,g2,g3,_,_⟩:=sW (aK ents) ents.length (by omega) ents 0 0 (by omega) (fun e=>by subst e;simp at h2) (.inr (by omega)) (fun h=>absurd h (by omega)) (fun _=>rfl) (fun x hx=>Aj (hm x hx))
  have hh:half ents=0+j:=g2
  rw[hh]at h
  have hj:0+j<ents.length:=by omega
  rw[List.getElem?_eq_getElem hj]at h
  simp only[Option.some.injEq,Prod.mk.injEq]at h
  obtain⟨rfl,rfl,rfl⟩:=h
  have hmk:=wK (hm _ (List.getElem_mem hj))
  have hmm:=hm _ (List.getElem_mem hj)
  unfold may at hmm
  simp only[Bool.and_eq_true,decide_eq_true_eq]at hmm
  refine⟨?_, ?_, ?_,hmk.1,hmm.1.2,List.take_sublist _ _,List.drop_sublist _ _,List.Sublist.refl _,List.Sublist.refl _⟩
  ·unfold cnt aG;simp only[List.length_take,List.length_drop,List.length_nil];omega
  ·unfold cnt aG;simp only[List.length_take,List.length_nil];omega
  ·unfold cnt aG;simp only[List.length_drop,List.length_nil];omega
 |false=>
  obtain⟨rfl,r2,r3,r4⟩:=aY.1 hr
  simp only[Bool.false_eq_true,if_false]at h
  simp only[List.length_nil]at h2
  have hj:kids.length / 2-1<keys.length:=by omega
  rw[List.getElem?_eq_getElem hj]at h
  simp only[Option.some.injEq,Prod.mk.injEq]at h
  obtain⟨rfl,rfl,rfl⟩:=h
  have hmm:=((jd keys).1 r4).1 _ (List.getElem_mem hj)
  have hmk:=wK (x:=(keys[kids.length / 2-1],⟨#[]⟩)) hmm
  unfold may at hmm
  simp only[Bool.and_eq_true,decide_eq_true_eq]at hmm
  refine⟨?_, ?_, ?_,hmk.1,hmm.1.2,List.Sublist.refl _,List.Sublist.refl _,List.take_sublist _ _,List.drop_sublist _ _⟩
  ·unfold cnt ah;simp only[List.length_take,List.length_drop,List.length_nil];omega
  ·unfold cnt ah;simp only[List.length_take,List.length_nil];omega
  ·unfold cnt ah;simp only[List.length_drop,List.length_nil];omega
theorem FM{a l:List Ent}(h:a.Sublist l):aK a<=aK l:=by
 induction h with
 |slnil=>exact Nat.le_refl _
 |cons x _ ih=>rw[dD];omega
 |cons_cons x _ ih=>rw[dD,dD];omega
theorem yu{a l:List Str}(h:a.Sublist l):aF a<=aF l:=by
 induction h with
 |slnil=>exact Nat.le_refl _
 |cons x _ ih=>rw[gu];omega
 |cons_cons x _ ih=>rw[gu,gu];omega
theorem vI{room:Int} :∀ (f:Nat) (σ:Pst) (id:Int) (n:Node) (p:Part),0<cnt n->(aC room f σ id n).1= .ok p->0<p.1.length
 |0,_,_,_,_,_,h=>by simp[aC]at h
 |f+1,σ,id,n,p,hn,h=>by
  unfold aC at h
  rw[if_neg (by unfold cnt at hn;omega)]at h
  cases hc:cut n with
  |none=>
   rw[hc]at h
   simp only at h
   cases hs:dY room σ id n with
   |mk q σ1=>
    rw[hs]at h
    cases q with
    |error e=>simp at h
    |ok pg=>simp only[Except.ok.injEq]at h;subst h;simp
  |some q=>
   obtain⟨a,k,b⟩:=q
   rw[hc]at h
   simp only at h
   have hcs:Nd.split n=some (a,k,b):=by
    unfold cut at hc
    split at hc
    ·exact hc
    ·cases hc
   obtain⟨_,ha,_⟩:=rG hcs
   cases hs:aC room f σ id a with
   |mk q σ1=>
    rw[hs]at h
    cases q with
    |error e=>simp at h
    |ok one=>
     simp only at h
     have hp:=vI f σ id a one ha (by rw[hs])
     cases hs2:aC room f σ1 0 b with
     |mk q2 σ2=>
      rw[hs2]at h
      cases q2 with
      |error e=>simp at h
      |ok two=>simp only[Except.ok.injEq]at h;subst h;rw[List.length_append];omega
def yw(one:Part)(key:Str)(q:Except Int Part × Pst):Except Int Part × Pst:=match q with
 |(.error e,σ2)=>(.error e,σ2)
 |(.ok two,σ2)=>(.ok (one.1++two.1,one.2++ [key]++two.2),σ2)
def Ic(room:Int)(f:Nat)(b:Node)(key:Str)(q:Except Int Part × Pst):Except Int Part × Pst:=match q with
 |(.error e,σ1)=>(.error e,σ1)
 |(.ok one,σ1)=>yw one key (aC room f σ1 0 b)
theorem Cb{one:Part}{key:Str}{q:Except Int Part × Pst}{e:Int}(h:q.1= .error e):yw one key q=(.error e,q.2):=by
 obtain⟨x,σ⟩:=q;simp only at h;subst h;rfl
theorem SY{one two:Part}{key:Str}{q:Except Int Part × Pst}(h:q.1= .ok two):yw one key q=(.ok (one.1++two.1,one.2++ [key]++two.2),q.2):=by
 obtain⟨x,σ⟩:=q;simp only at h;subst h;rfl
theorem Ce{room:Int}{f:Nat}{b:Node}{key:Str}{q:Except Int Part × Pst}{e:Int}(h:q.1= .error e):Ic room f b key q=(.error e,q.2):=by
 obtain⟨x,σ⟩:=q;simp only at h;subst h;rfl
theorem S9{room:Int}{f:Nat}{b:Node}{key:Str}{q:Except Int Part × Pst}{one:Part}(h:q.1= .ok one):Ic room f b key q=yw one key (aC room f q.2 0 b):=by
 obtain⟨x,σ⟩:=q;simp only at h;subst h;rfl
theorem Oa{room:Int}{f:Nat}{σ:Pst}{id:Int}{n a b:Node}{key:Str}(h0:¬n.ents.length+n.kids.length=0)(hc:cut n=some (a,key,b)):aC room (f+1) σ id n=Ic room f b key (aC room f σ id a):=by
 rw[aC,if_neg h0,hc]
 simp only
 cases aC room f σ id a with
 |mk q σ1=>
  cases q with
  |error e=>rfl
  |ok one=>
   simp only
   show _=yw one key (aC room f σ1 0 b)
   cases aC room f σ1 0 b with
   |mk q2 σ2=>cases q2<;>rfl
def Ie(q:Except Int Int × Pst):Except Int Part × Pst:=match q with
 |(.error e,σ1)=>(.error e,σ1)
 |(.ok p,σ1)=>(.ok ([p], []),σ1)
theorem jX{q:Except Int Int × Pst}{e:Int}(h:q.1= .error e):Ie q=(.error e,q.2):=by
 obtain⟨x,σ⟩:=q;simp only at h;subst h;rfl
theorem l7{q:Except Int Int × Pst}{i:Int}(h:q.1= .ok i):Ie q=(.ok ([i], []),q.2):=by
 obtain⟨x,σ⟩:=q;simp only at h;subst h;rfl
theorem wX{room:Int}{f:Nat}{σ:Pst}{id:Int}{n:Node}(h0:¬n.ents.length+n.kids.length=0)(hc:cut n=none):aC room (f+1) σ id n=Ie (dY room σ id n):=by
 rw[aC,if_neg h0,hc]
 simp only
 cases dY room σ id n with
 |mk q σ1=>cases q<;>rfl
theorem Kq{n:Node}{q:Node × Str × Node}(h:cut n=some q):240<size n/\Nd.split n=some q:=by
 unfold cut at h
 split at h
 ·exact⟨by assumption,h⟩
 ·cases h
theorem Kr{room:Int}{f:Nat}{σ:Pst}{id:Int}{n:Node}(h0:¬n.ents.length+n.kids.length=0)(h3:(aC room (f+1) σ id n).1≠ .error 3):Nd.right n=true:=by
 cases hc:cut n with
 |some q=>exact(rF (Kq hc).2).1
 |none=>
  rw[wX h0 hc]at h3
  cases hf:Nd.fits n with
  |true=>exact(bf.1 hf).1
  |false=>
   unfold dY at h3
   rw[if_pos hf]at h3
   exact absurd rfl h3
theorem abJ{k:Str}(h:0<k.size):(k.toList==(⟨#[]⟩:ByteArray).toList)=false/\k.toList.isEmpty=false/\k.toList≠ []:=by
 have hs:k.toList≠ []:=fun he=>by
  have e:k.toList=k.data.toList:=Go.Lib.toList_data k
  rw[e]at he
  have:k.size=0:=by rw[<-ByteArray.size_data, <-Array.length_toList,he];rfl
  omega
 have e0:(⟨#[]⟩:ByteArray).toList= []:=by rw[Go.Lib.toList_data]
 exact⟨by rw[e0,beq_eq_false_iff_ne];exact hs,by cases hk:k.toList with
  |nil=>exact absurd hk hs
  |cons a b=>rfl,hs⟩
end Tp
