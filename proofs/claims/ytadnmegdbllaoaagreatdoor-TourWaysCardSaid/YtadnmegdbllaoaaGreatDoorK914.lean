/- Part of this proof. -/
import Derived.Laws.LoneSync
import Derived.RangeFuncOwn
import Derived.Test.YtadnmegdbllaoaaGreatDoorK912
import Derived.Test.YtadnmegdbllaoaaGreatDoorK913
set_option maxRecDepth 100000
set_option maxHeartbeats 8000000
namespace Go.Proofs.YtadnmegdbllaoaaGreatDoor
open Go.RowKit Go.Shelf Go.Maps
end Go.Proofs.YtadnmegdbllaoaaGreatDoor
namespace Go.Proofs.YtadnmegdbllaoaaGreatDoor
open Go.RowKit Go.Shelf
abbrev Bs:=List UInt8
def str(s:Bs):Value:= .string ⟨s.toArray⟩
structure Dk where
 sure:List Bs
 now:Int->Option Bs
 pend:List (Int × Bs)
 left:Int
 down:Bool
 reads:Int
 writes:Int
end Go.Proofs.YtadnmegdbllaoaaGreatDoor
namespace Cc
def hv:List Nat:= [0,498536548,997073096,651767980,1994146192,1802195444,1303535960,1342533948,3988292384,4027552580,3604390888,3412177804,2607071920,2262029012,2685067896,3183342108]
def half(n:Nat):Nat:=n / 16 ^^^ hv.getD (n % 16) 0
def step(c b:Nat):Nat:=half (half (c ^^^ b))
def run(c:Nat)(l:List UInt8):Nat:=l.foldl (λc b=>step c b.toNat) c
def sum(l:List UInt8):Nat:=run 4294967295 l ^^^ 4294967295
end Cc
namespace Go.Proofs.YtadnmegdbllaoaaGreatDoor
open Go.RowKit
def HT(w:World):Prop:=1<w.heap.size/\∀i,i<16->w.cell? ⟨1,i,none⟩=some (.int .u32 ((Cc.hv.getD i 0:Nat):Int))
end Go.Proofs.YtadnmegdbllaoaaGreatDoor
namespace Pg
open Cp
def rest(id kind:Nat)(b:List UInt8):List UInt8:=be 4 id++(be 1 kind++(be 1 0++(be 2 b.length++([0,0,0,0]++(b++List.replicate (240-b.length) 0)))))
def page(id kind:Nat)(b:List UInt8):List UInt8:=be 4 (Cc.sum (rest id kind b))++rest id kind b
end Pg
namespace Go.Proofs.YtadnmegdbllaoaaGreatDoor
open Go.RowKit
end Go.Proofs.YtadnmegdbllaoaaGreatDoor
