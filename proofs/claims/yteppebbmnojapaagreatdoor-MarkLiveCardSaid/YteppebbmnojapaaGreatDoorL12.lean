/- Part of this proof. -/
import Derived.Test.YteppebbmnojapaaGreatDoorL11
set_option maxRecDepth 100000
set_option maxHeartbeats 8000000
namespace Go.Proofs.YteppebbmnojapaaGreatDoor
open Go.RowKit Go.Shelf
theorem Jh(w:World)(a:Obj)(t:TypeId)(cs:Array Value):Blk ((w.alloc a).alloc (.cells cs t)) (w.heap.size+1) t cs:=by
 have h:=Blk.new (w.alloc a) t cs
 rwa [World.size_alloc]at h
theorem Ro(w:World)(a:Obj)(t:TypeId)(cs:Array Value):Blk ((w.alloc a).drew.alloc (.cells cs t)) (w.heap.size+1) t cs:=by
 have h:=Blk.new (w.alloc a).drew t cs
 rwa [show(w.alloc a).drew.heap.size=w.heap.size+1 from World.size_alloc w a]at h
theorem Ba(s:List UInt8)(hs:s.length=256)(w:World)(hT:HT w):
  Calls Tryz.prog 318 #[.string ⟨s.toArray⟩] w fun e w'=>e= .returned (.bool (decide ((Cp.num (s.take 4):Int)=(Cc.sum (s.drop 4):Int))))/\Below w.heap.size w w':=by
 have hi:(Cp.Rd.int ⟨s,0⟩ 4).1=Cp.num (s.take 4):=by rw[Cp.og rfl (by show 4<=s.length;omega)]
 have hex:ByteArray.extract ⟨s.toArray⟩ 4 256=⟨(s.drop 4).toArray⟩:=by rw[<-hs];exact extract_drop s 4
 have hsl:(s.drop 4).length<=1000000:=by rw[List.length_drop];omega
 have hI:=fun g W h=>fH g ⟨s,0⟩ 4 W h (by omega)
 rw[hi]at hI
 have hS:=fun g W h hg=>sum_any g 1 (s.drop 4) hsl W h hg
 generalize Cp.num (s.take 4)=N at*
 generalize Cc.sum (s.drop 4)=S at*
 generalize s.drop 4=d at*
 have hI2:=fun g W h=>(hI g W h)
 clear hI hi
 generalize (Cp.Rd.int ⟨s,0⟩ 4).2=r' at*
 have HI:=Lib.hid hI2
 have HS:=Lib.hid hS
 clear hI2 hS
 go_enter Tryz.func318,Tryz.ntmps318
 go_wp2_with fail
 go_region_with (first
  |(go_at_call 216;refine(mM s _).mono ?_;rintro e w1 ⟨rfl,rfl⟩)
  |(go_at_call 218;refine(HI.out _ _ (by first | exact Blk.new _ _ _ | exact Jh _ _ _ _ | exact(Blk.new _ _ _).alloc _)).mono ?_;rintro e w2 ⟨rfl, -,g2⟩
    have hbw2:Below w.heap.size w w2:=(by
     refine Below.grown ?_ g2 ?_ ?_
     ·repeat(first | exact Below.refl _ _ | apply Below.drew | refine Below.alloc ?_ (by first | simp | (simp;omega)) _)
     ·first | (simp;done) | (simp;omega)
     ·intro k e;cases e;omega)
    have hT2:=hT.below hbw2 hT.1)
  |(go_at_call 209;refine(HS.out _ _ (by first | exact hT2 | exact hT2.below ((Below.refl _ _).alloc (Nat.le_refl _) _) hT2.1 | exact hT2.below ((Below.refl _ _).alloc (Nat.le_refl _) _).drew hT2.1) (by first | exact(Blk.new w2 _ _).cell 0 | (refine(Blk.grown (t:=9) (cs:= #[.string ⟨d.toArray⟩]) ?_ g2 (by simp)).cell 0;first | exact Blk.new _ _ _ | exact Jh _ _ _ _ | exact Ro _ _ _ _ | exact(Blk.new _ _ _).alloc _ | exact(Blk.new _ _ _).drew.alloc _))).mono ?_;rintro e w3 ⟨rfl,g3⟩
    have hbw3:Below w.heap.size w w3:=(by
     have hsz:=hbw2.size
     refine Below.grown ?_ g3 ?_ ?_
     ·repeat(first | exact hbw2 | apply Below.drew | refine Below.alloc ?_ (by first | assumption | (simp;omega)) _)
     ·first | assumption | (simp;omega)
     ·intro k e;cases e)))
 all_goals(
  go_wp2
  go_ret
  exact⟨rfl,by first | exact hbw3 | exact below_drewN hbw3 _ | exact hbw3.drew⟩)
end Go.Proofs.YteppebbmnojapaaGreatDoor
