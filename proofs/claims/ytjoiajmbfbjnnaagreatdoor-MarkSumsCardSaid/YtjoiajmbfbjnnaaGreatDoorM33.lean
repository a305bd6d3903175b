/- Part of this proof. -/
import Derived.Test.YtjoiajmbfbjnnaaGreatDoorM32
set_option maxRecDepth 100000
set_option maxHeartbeats 8000000
namespace Go.Proofs.YtjoiajmbfbjnnaaGreatDoor
open Go.RowKit Go.Shelf
theorem Fr.go{S S':Nat->Prop}{w w1 w2:World}(h:Fr S w w1)(h':Fr S' w1 w2)(hS:∀k,S' k->S k\/w.heap.size<=k):Fr S w w2:=
 ⟨h'.os.trans h.os,h'.tape.trans h.tape,h'.output.trans h.output,Nat.le_trans h.size h'.size,fun k hk a=>(h'.block k (Nat.lt_of_lt_of_le hk h.size) (fun b=>by rcases hS k b with c | c;exact a c;omega)).trans (h.block k hk a)⟩
def Tp.cost(c:Nd.Node->Nat)(disk:Tp.Disk)(σ:Tp.Pst):Nat->Int->Nat
 |0,_=>0
 |f+1,id=>match σ.view disk id with
  |none=>0
  |some n=>c n+(n.kids.map (Tp.cost c disk σ f)).sum
def Tp.rd(_:Nd.Node):Nat:=2
def Tp.costs(c:Nd.Node->Nat)(disk:Tp.Disk)(σ:Tp.Pst)(f:Nat)(l:List Int):Nat:=(l.map (Tp.cost c disk σ f)).sum
theorem Tp.costs_drop{c:Nd.Node->Nat}{disk:Tp.Disk}{σ:Tp.Pst}{f:Nat}(l:List Int)(j:Nat)(hj:j<l.length):Tp.costs c disk σ f (l.drop j)=Tp.cost c disk σ f l[j]+Tp.costs c disk σ f (l.drop (j+1)):=by
 unfold Tp.costs
 rw[List.drop_eq_getElem_cons hj,List.map_cons,List.sum_cons]
theorem Tp.cost_eq{c:Nd.Node->Nat}{disk:Tp.Disk}{σ:Tp.Pst}{f:Nat}{id:Int}{n:Nd.Node}(hv:σ.view disk id=some n):Tp.cost c disk σ (f+1) id=c n+Tp.costs c disk σ f n.kids:=by unfold Tp.costs;rw[Tp.cost,hv]
end Go.Proofs.YtjoiajmbfbjnnaaGreatDoor
