/- Part of this proof. -/
import Derived.Test.YteppebbmnojapaaGreatDoorL09
import Derived.Test.YteppebbmnojapaaGreatDoorL10
set_option maxRecDepth 100000
set_option maxHeartbeats 8000000
namespace Go.Proofs.YteppebbmnojapaaGreatDoor
open Go.RowKit Go.Shelf
theorem VE:Builder.Extra Tryz.prog Tryz.lays156_ren where
 sizeBuilder:=by kernel_rfl
 liesBuilder:=by kernel_rfl
 t5:=Tryz.underlying5
 a5:=Tryz.isAgg5
 z5:=Tryz.sizeOf5
 v5:=Tryz.zeroValue5
 infoByte:=by kernel_rfl
 cellsByte:=by kernel_rfl
 sizeByte:=by kernel_rfl
 neB5:=by decide
theorem EP(bk c:Nat)(xs:List ByteArray)(w:World)(hcells:∀ (j:Nat) x,xs[j]? =some x->w.cell? ⟨bk,0+j,none⟩=some (.string x))(hbk:bk<w.heap.size)(hN:xs.length<=140737488355328)(hcap:xs.length<=c)
  (hlen:(Lib.join (xs.map (·.data.toList)) (⟨#[]⟩:ByteArray).data.toList).length<=140737488355328):
  Calls Tryz.prog 156 #[.slice (some ⟨bk,0,none⟩) xs.length c, .string ⟨#[]⟩] w fun e w'=>e= .returned (.string ⟨(Lib.join (xs.map (·.data.toList)) (⟨#[]⟩:ByteArray).data.toList).toArray⟩)/\Below w.heap.size w w':=
 Any.strings_Join Tryz.lays156 VE bk 0 c xs ⟨#[]⟩ w hcells hbk hN hcap hlen
theorem VF(l:List UInt8)(w:World)(hl:l.length<=1000000):
  Calls Tryz.prog 319 #[.string ⟨l.toArray⟩, .string ⟨#[0]⟩] w fun e w'=>e= .returned (.string ⟨(Lib.trimB l 0).toArray⟩)/\(w'=w\/w'=w.drew):=
 Any.strings_Trim_one Tryz.lays160 ⟨l.toArray⟩ 0 (by decide) w (by show l.toArray.size<=_;simp;omega)
theorem AY(x:List UInt8)(xs:List (List UInt8)):Lib.join (x::xs) []=x++Lib.join xs []:=by
 cases xs with
 |nil=>simp[Lib.join,List.intercalate]
 |cons y ys=>simp[Lib.join,List.intercalate]
theorem Ri(g:Nat)(a b c d e f h:List UInt8)(w:World)
  (g0:w.cell? ⟨g,0,none⟩=some (.string ⟨a.toArray⟩)) (g1:w.cell? ⟨g,1,none⟩=some (.string ⟨b.toArray⟩)) (g2:w.cell? ⟨g,2,none⟩=some (.string ⟨c.toArray⟩)) (g3:w.cell? ⟨g,3,none⟩=some (.string ⟨d.toArray⟩)) (g4:w.cell? ⟨g,4,none⟩=some (.string ⟨e.toArray⟩)) (g5:w.cell? ⟨g,5,none⟩=some (.string ⟨f.toArray⟩)) (g6:w.cell? ⟨g,6,none⟩=some (.string ⟨h.toArray⟩))
  (hlen:(a++(b++(c++(d++(e++(f++h)))))).length<=1000000):
  Calls Tryz.prog 80 #[.slice (some ⟨g,0,none⟩) 7 7] w fun r w'=>r= .returned (.string ⟨(a++(b++(c++(d++(e++(f++h)))))).toArray⟩)/\Below w.heap.size w w':=by
 have hbk:=World.block_lt_of_cell? w _ g0
 have hj:Lib.join (List.map (fun x:ByteArray=>x.data.toList) [⟨a.toArray⟩,⟨b.toArray⟩,⟨c.toArray⟩,⟨d.toArray⟩,⟨e.toArray⟩,⟨f.toArray⟩,⟨h.toArray⟩]) []=a++(b++(c++(d++(e++(f++h))))):=by
  simp only[List.map_cons,List.map_nil]
  simp only[AY]
  simp[Lib.join]
 have hc:=EP g 7 [⟨a.toArray⟩,⟨b.toArray⟩,⟨c.toArray⟩,⟨d.toArray⟩,⟨e.toArray⟩,⟨f.toArray⟩,⟨h.toArray⟩] w (by
  intro j x hx
  rw[Nat.zero_add]
  match j,hx with
  |0,hx=>simp at hx;subst hx;exact g0
  |1,hx=>simp at hx;subst hx;exact g1
  |2,hx=>simp at hx;subst hx;exact g2
  |3,hx=>simp at hx;subst hx;exact g3
  |4,hx=>simp at hx;subst hx;exact g4
  |5,hx=>simp at hx;subst hx;exact g5
  |6,hx=>simp at hx;subst hx;exact g6
  |j+7,hx=>simp at hx) hbk (by simp) (by simp) (by
  show(Lib.join _ []).length<=_
  rw[hj];omega)
 change Calls Tryz.prog 156 #[.slice (some ⟨g,0,none⟩) 7 7, .string ⟨#[]⟩] w fun r w'=>r= .returned (.string ⟨(Lib.join _ []).toArray⟩)/\Below w.heap.size w w' at hc
 rw[hj]at hc
 generalize a++(b++(c++(d++(e++(f++h)))))=R at*
 go_enter Tryz.func80,Tryz.ntmps80
 go_wp2_with (go_at_call 156;refine hc.mono ?_;rintro r w1 ⟨rfl,hb⟩)
 go_ret
 exact⟨rfl,hb⟩
theorem ER(n:Nat)(h:n<256)(w:World):Calls Tryz.prog 208 #[.int .i64 1, .int .i64 n] w fun e w'=>e= .returned (.string ⟨(Cp.be 1 n).toArray⟩)/\Below w.heap.size w w':=by
 have hp:=EM n w (by omega) (by omega)
 rw[Int.toNat_natCast]at hp
 generalize Cp.be 1 n=S at*
 go_enter Tryz.func208,Tryz.ntmps208
 go_wp2_with (go_at_call 79;refine hp.mono ?_;rintro e w1 ⟨rfl,hb⟩)
 go_ret
 exact⟨rfl,hb⟩
theorem Rj(n:Nat)(h:n<65536)(w:World):Calls Tryz.prog 208 #[.int .i64 2, .int .i64 n] w fun e w'=>e= .returned (.string ⟨(Cp.be 2 n).toArray⟩)/\Below w.heap.size w w':=by
 have hp:=EN n w (by omega) (by omega)
 rw[Int.toNat_natCast]at hp
 generalize Cp.be 2 n=S at*
 go_enter Tryz.func208,Tryz.ntmps208
 go_wp2_with (go_at_call 79;refine hp.mono ?_;rintro e w1 ⟨rfl,hb⟩)
 go_ret
 exact⟨rfl,hb⟩
theorem Rk(n:Nat)(h:n<4294967296)(w:World):Calls Tryz.prog 208 #[.int .i64 4, .int .i64 n] w fun e w'=>e= .returned (.string ⟨(Cp.be 4 n).toArray⟩)/\Below w.heap.size w w':=by
 have hp:=oJ n w (by omega) (by omega)
 rw[Int.toNat_natCast]at hp
 generalize Cp.be 4 n=S at*
 go_enter Tryz.func208,Tryz.ntmps208
 go_wp2_with (go_at_call 79;refine hp.mono ?_;rintro e w1 ⟨rfl,hb⟩)
 go_ret
 exact⟨rfl,hb⟩
theorem VG(n:Nat):Lib.repeatL [0] n=List.replicate n (0:UInt8):=by
 induction n with
 |zero=>rfl
 |succ n ih=>rw[Lib.repeatL,ih];rfl
theorem Rl(n:Nat)(hn:n<=240)(w:World):Calls Tryz.prog 58 #[.string ⟨#[0]⟩, .int .i64 n] w fun e w'=>e= .returned (.string ⟨(List.replicate n (0:UInt8)).toArray⟩)/\Below w.heap.size w w':=by
 have h:=yK ⟨#[0]⟩ n w (by omega) (by show 1*n<=_;omega)
 have e:Lib.repeatL (⟨#[0]⟩:ByteArray).data.toList n=List.replicate n (0:UInt8):=by
  exact VG n
 rwa [e]at h
def zZ(s:List UInt8)(x:Int)(w:World)(e:Ending)(w':World):Prop:=e= .returned (.tuple #[.string ⟨s.toArray⟩, .int .i64 x])/\Below w.heap.size w w'
theorem YT(id kind:Nat)(b:List UInt8)(hi:id<4294967296)(hk:kind<256)(hb:b.length<=240)(w:World)(hT:HT w):
  Calls Tryz.prog 139 #[.int .i64 id, .int .u8 kind, .string ⟨b.toArray⟩] w (zZ (Pg.page id kind b) 0 w):=by
 obtain⟨O,hO⟩:∃O,O=Pg.page id kind b:=⟨_,rfl⟩
 rw[<-hO]
 have hrl:=Pg.yN id kind b hb
 have hcs:=Cc.sum_lt (Pg.rest id kind b)
 unfold Pg.page at hO
 have hP4:=fun W=>oJ id W (by omega) (by omega)
 rw[Int.toNat_natCast]at hP4
 have hI:=Cp.au 4 id
 have hCl:=Cp.au 4 (Cc.sum (Pg.rest id kind b))
 have hK:=fun W=>ER kind hk W
 have h0:=fun W=>ER 0 (by decide) W
 have hL:=fun W=>Rj b.length (by omega) W
 have hZ:=fun W=>Rl (240-b.length) (by omega) W
 have hJ:=fun g W g0 g1 g2 g3 g4 g5 g6=>Ri g (Cp.be 4 id) (Cp.be 1 kind) (Cp.be 1 0) (Cp.be 2 b.length) [0,0,0,0] b (List.replicate (240-b.length) 0) W g0 g1 g2 g3 g4 g5 g6 (by have:=hrl;unfold Pg.rest at this;omega)
 have hS:=fun g W h hg=>sum_any g 1 (Pg.rest id kind b) (by omega) W h hg
 have hC:=fun W=>Rk (Cc.sum (Pg.rest id kind b)) hcs W
 change ∀ (g:Nat) (W:World) _ _ _ _ _ _ _,Calls Tryz.prog 80 #[.slice (some ⟨g,0,none⟩) 7 7] W fun r w'=>r= .returned (.string ⟨(Pg.rest id kind b).toArray⟩)/\Below W.heap.size W w' at hJ
 generalize Cc.sum (Pg.rest id kind b)=S at*
 generalize Pg.rest id kind b=R at*
 generalize hzz:List.replicate (240-b.length) (0:UInt8)=Z at*
 generalize Cp.be 4 id=I at*
 generalize Cp.be 1 kind=K at*
 generalize Cp.be 1 0=N at*
 generalize Cp.be 2 b.length=L at*
 generalize hcc:Cp.be 4 S=C at*
 have hZ':∀W:World,Calls Tryz.prog 58 #[.string ⟨#[0]⟩, .int .i64 (240-(b.length:Int))] W fun e w'=>e= .returned (.string ⟨Z.toArray⟩)/\Below W.heap.size W w':=by
  intro W;have:=hZ W;rwa [show((240-b.length:Nat):Int)=240-(b.length:Int)by omega]at this
 have HO:=Lib.hid hO
 have HP4:=Lib.hid hP4
 have HK:=Lib.hid hK
 have H0:=Lib.hid h0
 have HL:=Lib.hid hL
 have HZ:=Lib.hid hZ'
 have HJ:=Lib.hid hJ
 have HS:=Lib.hid hS
 have HC:=Lib.hid hC
 clear hO hP4 hK h0 hL hZ hZ' hJ hS hC hzz hcc
 go_enter Tryz.func139,Tryz.ntmps139
 go_wp2_with fail
 refine Calls.mono (HP4.out _) ?_
 rintro e w1 ⟨rfl,b1⟩
 go_wp2_with fail
 refine Calls.mono (HK.out _) ?_
 rintro e w2 ⟨rfl,b2⟩
 go_wp2_with fail
 refine Calls.mono (H0.out _) ?_
 rintro e w3 ⟨rfl,b3⟩
 go_wp2_with fail
 refine Calls.mono (HL.out _) ?_
 rintro e w4 ⟨rfl,b4⟩
 go_wp2_with fail
 refine Calls.mono (HZ.out _) ?_
 rintro e w5 ⟨rfl,b5⟩
 have AZ:Below w.heap.size w w5:=(((b1.trans (b2.mono b1.size)).trans (b3.mono (Nat.le_trans b1.size b2.size))).trans (b4.mono (Nat.le_trans b1.size (Nat.le_trans b2.size b3.size)))).trans (b5.mono (Nat.le_trans b1.size (Nat.le_trans b2.size (Nat.le_trans b3.size b4.size))))
 have hT5:=hT.below AZ hT.1
 go_wp2_with fail
 have hB:=Blk.new w5 9 #[.string ⟨I.toArray⟩, .string ⟨K.toArray⟩, .string ⟨N.toArray⟩, .string ⟨L.toArray⟩, .string ⟨#[0,0,0,0]⟩, .string ⟨b.toArray⟩, .string ⟨Z.toArray⟩]
 refine Calls.mono (HJ.out w5.heap.size _ (hB.cell 0) (hB.cell 1) (hB.cell 2) (hB.cell 3) (hB.cell 4) (hB.cell 5) (hB.cell 6)) ?_
 rintro e w6 ⟨rfl,b6⟩
 have hb0:=AZ.alloc AZ.size (.cells #[.string ⟨I.toArray⟩, .string ⟨K.toArray⟩, .string ⟨N.toArray⟩, .string ⟨L.toArray⟩, .string ⟨#[0,0,0,0]⟩, .string ⟨b.toArray⟩, .string ⟨Z.toArray⟩] 9)
 have qP:=hb0.trans (b6.mono hb0.size)
 have hT6:=hT.below qP hT.1
 clear hB b1 b2 b3 b4 b5 b6 hb0 hT5
 go_wp2_with fail
 have hB:=Blk.new w6 9 #[.string ⟨R.toArray⟩]
 have hT7:HT (w6.alloc (.cells #[.string ⟨R.toArray⟩] 9)):=hT.below (qP.alloc qP.size _) hT.1
 refine Calls.mono (HS.out w6.heap.size _ hT7 (hB.cell 0)) ?_
 rintro e w7 ⟨rfl,g7⟩
 have hb6:=qP.alloc qP.size (.cells #[.string ⟨R.toArray⟩] 9)
 have b7:=nV g7 (Nat.le_refl _)
 have D9:=hb6.trans (b7.mono hb6.size)
 clear hB hT7 hb6 b7 g7
 go_wp2_with fail
 refine Calls.mono (HC.out _) ?_
 rintro e w8 ⟨rfl,b8⟩
 have afR:=D9.trans (b8.mono D9.size)
 have hx:(⟨C.toArray⟩:ByteArray)++⟨R.toArray⟩=⟨O.toArray⟩:=by rw[HO.out];exact fZ C R
 go_wp2
 go_ret2
 exact⟨rfl,afR⟩
theorem Rn(id:Int)(kind:Nat)(b:List UInt8)(hb:240<b.length)(w:World):
  Calls Tryz.prog 139 #[.int .i64 id, .int .u8 kind, .string ⟨b.toArray⟩] w (zZ [] 50 w):=by
 have hd:decide ((240:Int)<(b.length:Int))=true:=by simp;omega
 go_enter Tryz.func139,Tryz.ntmps139
 go_wp2
 go_ret2
 exact⟨rfl,Below.refl _ _⟩
end Go.Proofs.YteppebbmnojapaaGreatDoor
