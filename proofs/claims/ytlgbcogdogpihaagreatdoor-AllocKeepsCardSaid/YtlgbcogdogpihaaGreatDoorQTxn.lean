/- A change of a file in memory: what is carried; alloc.New, Pages, Free, Fresh. -/
import Derived.Maps.OwnSet
import Derived.Test.YtlgbcogdogpihaaGreatDoorQDisk
namespace Go.Proofs.YtlgbcogdogpihaaGreatDoor
open Go.RowKit Go.Shelf
def heldR (v : Value) : Option (DataW Value × List MemPlace) :=
  match v with
  | .agg ⟨[.bool _, .int .u8 _, .string _]⟩ => some (.held v, [])
  | _ => none
def content (b : Bool) (q : Int) (s : ByteArray) : Value := .agg #[.bool b, .int .u8 q, .string s]
theorem heldR_mk (b : Bool) (q : Int) (s : ByteArray) : heldR (content b q s) = some (.held (content b q s), []) := rfl
theorem heldR_inv {v : Value} {z : DataW Value × List MemPlace} (h : heldR v = some z) : ∃ b q s, v = content b q s ∧ z = (.held v, []) := by
  unfold heldR at h
  split at h
  · rename_i b q s
    exact ⟨b, q, s, rfl, by cases h; rfl⟩
  · cases h
theorem keyI {x : Int} (hx : (Lit.int .i64 x).wf = true) : keyOf Tryz.prog 3 (.int .i64 x) = some (.int .i64 x) := Maps.keyOf_int_mk Tryz.underlying3 hx
theorem keyedI : Maps.Keyed Tryz.prog 3 := Maps.int_keyed Tryz.underlying3
/-- the change at t: its file f of n sectors, its map at m -/
structure Txn (w : World) (t m f n : Nat) (free : List Run) (pages : Int) (k : Nat) (D : DataW Value) : Prop where
  file : FileOf w f n
  self : ∃ v, Blk w t 117 #[.pointer (some ⟨f, 0, none⟩), v, .int .i64 pages, .map (some m)] ∧ Own w 0 v free
  map : w.ownsMap Tryz.prog 3 heldR m k D
section
variable {w w' : World} {t m f n k : Nat} {free : List Run} {pages : Int} {D : DataW Value}
theorem Own.keep {row : Option Nat} {base : Nat} {v : Value} {l : List Run} (h : Own w base v l) (hg : w.grownBy w' row) (hr : ∀ r, row = some r → ∃ o, w.heap[r]? = some o ∧ ∀ cs, o ≠ .cells cs 62 (0, 0)) : Own w' base v l := by
  rcases h with ⟨h1, h2 | ⟨g, cap, cur, hv, hb, hh, r⟩⟩
  · exact ⟨h1, .inl h2⟩
  · refine ⟨h1, .inr ⟨g, cap, cur, hv, hb, (hg.block g (Array.getElem?_eq_some_iff.1 hh).1 ?_).trans hh, r⟩⟩
    intro e
    obtain ⟨o, ho, hne⟩ := hr g e.symm
    rw [hh] at ho; cases ho
    exact hne cur rfl
theorem Blk.keep {row : Option Nat} {g : Nat} {ty : TypeId} {cs : Array Value} (h : Blk w g ty cs) (hg : w.grownBy w' row) (hr : ∀ r, row = some r → ∃ o, w.heap[r]? = some o ∧ ∀ cs, o ≠ .cells cs ty (0, 0)) : Blk w' g ty cs := by
  refine (hg.block g h.lt ?_).trans h
  intro e
  obtain ⟨o, ho, hne⟩ := hr g e.symm
  unfold Blk at h
  rw [h] at ho; cases ho
  exact hne cs rfl
/-- a block that is none of a change's -/
def Far (o : Obj) : Prop := (∀ cs, o ≠ .cells cs 62 (0, 0)) ∧ (∀ cs, o ≠ .cells cs 117 (0, 0)) ∧ (∀ cs, o ≠ .cells cs 73 (0, 0)) ∧ (∀ cs, o ≠ .cells cs 84 (0, 0)) ∧ ∀ es c, o ≠ .map es c
theorem FileOf.keep {row : Option Nat} (h : FileOf w f n) (hg : w.grownBy w' row) (hr : ∀ r, row = some r → ∃ o, w.heap[r]? = some o ∧ (∀ cs, o ≠ .cells cs 73 (0, 0)) ∧ (∀ cs, o ≠ .cells cs 84 (0, 0))) : FileOf w' f n := by
  obtain ⟨d, h1, cs, A, c, h2, h3⟩ := h
  exact ⟨d, h1.keep hg (fun r e => by obtain ⟨o, ho, a, b⟩ := hr r e; exact ⟨o, ho, a⟩), cs, A, c, h2.keep hg (fun r e => by obtain ⟨o, ho, a, b⟩ := hr r e; exact ⟨o, ho, b⟩), h3⟩
theorem Txn.keep {row : Option Nat} (h : Txn w t m f n free pages k D) (hg : w.grownBy w' row) (hr : ∀ r, row = some r → ∃ o, w.heap[r]? = some o ∧ Far o) : Txn w' t m f n free pages k D := by
  obtain ⟨h1, ⟨v, h2, h3⟩, h4⟩ := h
  refine ⟨h1.keep hg (fun r e => ?_), ⟨v, h2.keep hg (fun r e => ?_), h3.keep hg (fun r e => ?_)⟩, h4.kept hg (fun e => ?_)⟩
  · obtain ⟨o, ho, a⟩ := hr r e; exact ⟨o, ho, a.2.2.1, a.2.2.2.1⟩
  · obtain ⟨o, ho, a⟩ := hr r e; exact ⟨o, ho, a.2.1⟩
  · obtain ⟨o, ho, a⟩ := hr r e; exact ⟨o, ho, a.1⟩
  · obtain ⟨o, ho, a⟩ := hr m e.symm
    obtain ⟨es, c, hm, _⟩ := h4
    rw [hm] at ho; cases ho
    exact a.2.2.2.2 es c rfl
theorem Txn.below (h : Txn w t m f n free pages k D) (hb : Below w.heap.size w w') : Txn w' t m f n free pages k D := h.keep (only_of_below hb none) (fun r e => by cases e)
theorem Txn.alloc (h : Txn w t m f n free pages k D) (o : Obj) : Txn (w.alloc o) t m f n free pages k D := h.below ((Below.refl _ w).alloc (Nat.le_refl _) o)
end
end Go.Proofs.YtlgbcogdogpihaaGreatDoor
