/- The walk of alloc's Taken: slices.Sorted(maps.Keys(t.fresh)). A disk in memory: what is carried; the walks of at, Sectors, atomic's Add. The walk of disk.Read. The walk of disk.Write. Plain: the check of bytes. The walks of crc.Step, crc.Sum. Plain: what a page's bytes are. The walks of rootstockref01: Put, Int. The walk of chain.Body. -/
import Derived.Maps.OwnSet
import Derived.Laws.LoneSync
import Derived.RangeFuncOwn
import Derived.KernelRfl
import Derived.Laws.BitsAllLaws
import Derived.Test.YtpfplojkiloldaaGreatDoorQ00
import Derived.Test.YtpfplojkiloldaaGreatDoorQ06
import Derived.Test.YtpfplojkiloldaaGreatDoorQ14
import Derived.Test.YtpfplojkiloldaaGreatDoorQ22
import Derived.Test.YtpfplojkiloldaaGreatDoorQ23
namespace Go.Proofs.YtpfplojkiloldaaGreatDoor
open Go.RowKit Go.Shelf Go.Maps
end Go.Proofs.YtpfplojkiloldaaGreatDoor
namespace Go.Proofs.YtpfplojkiloldaaGreatDoor
open Go.RowKit Go.Shelf
abbrev Bs := List UInt8
def str (s : Bs) : Value := .string ⟨s.toArray⟩
structure Dk where
  sure : List Bs
  now : Int → Option Bs
  pend : List (Int × Bs)
  left : Int
  down : Bool
  reads : Int
  writes : Int
def Dk.at_ (D : Dk) (i : Int) : Int := if D.down then 4 else if i < 0 ∨ (D.sure.length : Int) ≤ i then 40 else 0
end Go.Proofs.YtpfplojkiloldaaGreatDoor
namespace Go.Proofs.YtpfplojkiloldaaGreatDoor
open Go.RowKit Go.Shelf
section
variable {w : World} {B d k : Nat} {D : Dk} {s m : Nat} {pv : Value} {Dm : DataW Value}
end
def Dk.get (D : Dk) (i : Int) : Bs := match D.now i with
  | some s => s
  | none => D.sure.getD i.toNat []
end Go.Proofs.YtpfplojkiloldaaGreatDoor
namespace Go.Proofs.YtpfplojkiloldaaGreatDoor
open Go.RowKit Go.Shelf
section
variable {w w2 : World} {B d k : Nat} {D : Dk} {s m : Nat} {pv v' : Value} {Dm : DataW Value}
end
def Kept (w w' : World) : Prop := ∀ (g : Nat) (t : TypeId) (cs : Array Value), Blk w g t cs → t ≠ 110 → t ≠ 172 → Blk w' g t cs
theorem Kept.refl (w : World) : Kept w w := fun _ _ _ h _ _ => h
theorem Kept.trans {a b c : World} (h : Kept a b) (h2 : Kept b c) : Kept a c := fun g t cs hb h1 h3 => h2 g t cs (h g t cs hb h1 h3) h1 h3
theorem Kept.set_ {a w : World} (h : Kept a w) {d j : Nat} {cs : Array Value} (hd : Blk w d 110 cs) (u : Value) : Kept a (w.setCell ⟨d, j, none⟩ u) := fun g t cs' hb h1 h3 => by
  have h4 := h g t cs' hb h1 h3
  exact h4.far (p := ⟨d, j, none⟩) (h4.ne_ hd h1) u
theorem Kept.below {w w' : World} (h : Below w.heap.size w w') : Kept w w' := fun _ _ _ hb _ _ => hb.below h hb.lt
theorem LO.kept {α : Type} {E : Enc α} {ty : TypeId} {w w' : World} {base : Nat} {v : Value} {l : List α} (h : LO E ty w base v l) (hk : Kept w w') (h1 : ty ≠ 110) (h2 : ty ≠ 172) : LO E ty w' base v l := by
  rcases h with ⟨h3, h4 | ⟨g, cap, cur, hv, hb, hh, r⟩⟩
  · exact ⟨h3, .inl h4⟩
  · exact ⟨h3, .inr ⟨g, cap, cur, hv, hb, hk g ty _ hh h1 h2, r⟩⟩
def Dk.put (D : Dk) (i : Int) (t : Bs) : Dk := { D with writes := D.writes + 1, pend := D.pend ++ [(i, t)], now := fun j => if j = i then some t else D.now j }
end Go.Proofs.YtpfplojkiloldaaGreatDoor
namespace Cc
def hv : List Nat := [0, 498536548, 997073096, 651767980, 1994146192, 1802195444, 1303535960, 1342533948, 3988292384, 4027552580, 3604390888, 3412177804, 2607071920, 2262029012, 2685067896, 3183342108]
def half (n : Nat) : Nat := n / 16 ^^^ hv.getD (n % 16) 0
def step (c b : Nat) : Nat := half (half (c ^^^ b))
def run (c : Nat) (l : List UInt8) : Nat := l.foldl (fun c b => step c b.toNat) c
def sum (l : List UInt8) : Nat := run 4294967295 l ^^^ 4294967295
end Cc
namespace Go.Proofs.YtpfplojkiloldaaGreatDoor
open Go.RowKit
def HT (w : World) : Prop := 0 < w.heap.size ∧ ∀ i, i < 16 → w.cell? ⟨0, i, none⟩ = some (.int .u32 ((Cc.hv.getD i 0 : Nat) : Int))
theorem HT.below {w w' : World} {B : Nat} (h : HT w) (hb : Below B w w') (hB : 0 < B) : HT w' := by
  refine ⟨by have := hb.size; have := h.1; omega, fun i hi => ?_⟩
  rw [hb.cell (p := ⟨0, i, none⟩) hB]; exact h.2 i hi
end Go.Proofs.YtpfplojkiloldaaGreatDoor
namespace Pg
open Cp
def rest (id kind : Nat) (b : List UInt8) : List UInt8 := be 4 id ++ (be 1 kind ++ (be 1 0 ++ (be 2 b.length ++ ([0, 0, 0, 0] ++ (b ++ List.replicate (240 - b.length) 0)))))
def page (id kind : Nat) (b : List UInt8) : List UInt8 := be 4 (Cc.sum (rest id kind b)) ++ rest id kind b
end Pg
namespace Go.Proofs.YtpfplojkiloldaaGreatDoor
open Go.RowKit
end Go.Proofs.YtpfplojkiloldaaGreatDoor
namespace Go.Proofs.YtpfplojkiloldaaGreatDoor
open Go.RowKit
end Go.Proofs.YtpfplojkiloldaaGreatDoor
