/- Part of this proof. -/
import Derived.Test.YteppebbmnojapaaGreatDoorL01
set_option maxRecDepth 100000
set_option maxHeartbeats 8000000
namespace Go.Proofs.YteppebbmnojapaaGreatDoor
open Go.RowKit
theorem bC(l:List Run):(Rp.norm l).length<=l.length:=by
 have h:=(aa8 l l.length).2
 unfold nAt at h
 rwa [List.take_of_length_le (Nat.le_refl _)]at h
def pg(l:List Run):Int:=((((Rp.norm l).length+28) / 29:Nat):Int)
def AL(l:List Run)(w:World)(e:Ending)(w':World):Prop:=e= .returned (.int .i64 (pg l))/\Below w.heap.size w w'
theorem EL(hS:SortSaid)(A:Option Addr)(c:Nat)(l:List Run)(w:World)(hr:RS w w.heap.size A l)(hl:l.length<=1000000):Calls Tryz.prog 92 #[.slice A l.length c] w (AL l w):=by
 have hn:=bC l
 have hc:=EK hS A c l w hr hl
 obtain⟨n,hnn⟩:∃n,n=Rp.norm l:=⟨_,rfl⟩
 rw[<-hnn]at hn hc
 have HN:=Lib.hid hnn
 have HC:=Lib.hid hc
 clear hnn hc hS
 go_enter Tryz.func92,Tryz.ntmps92
 go_wp2_with (go_at_call 33;refine HC.out.mono ?_;rintro e w1 ⟨v,rfl,ho,hb⟩;obtain⟨A1,c1,rfl⟩:=ho.form)
 go_ret
 refine⟨?_,hb⟩
 unfold pg
 rw[<-HN.out]
 show Ending.returned (.int .i64 _)=_
 congr 2
 omega
end Go.Proofs.YteppebbmnojapaaGreatDoor
