/- A slice of ints that came in, opened to a list. -/
import Derived.ChangeSlices
import Derived.Test.YtlgbcogdogpihaaGreatDoorQOpenRuns
namespace Go.Proofs.YtlgbcogdogpihaaGreatDoor
open Go.RowKit Go.ChangeShapes Go.WideShapes
def encI (x : Int) : Value := .int .i64 x
/-- the heap holds the ints l at A, below B -/
def RI (w : World) (B : Nat) (A : Option Addr) (l : List Int) : Prop := Reads w B 1 A l.length (l.map encI)
theorem RI.at_ {w : World} {B : Nat} {A : Option Addr} {l : List Int} (h : RI w B A l) {k : Nat} (hk : k < l.length) : ∃ b off, A = some ⟨b, off, none⟩ ∧ b < B ∧ w.cell? ⟨b, off + k, none⟩ = some (.int .i64 l[k]) := by
  obtain ⟨ad, rfl, hb, hc⟩ := h.2 (by omega)
  obtain ⟨b, off, spot⟩ := ad
  have g1 := hc k (encI l[k]) (by simp [hk])
  have hs : spot = none := by
    have g := hc 0 (encI l[0]) (by simp; exact ⟨_, List.getElem?_eq_getElem (by omega), rfl⟩)
    simpa [Addr.add] using World.cell?_spot g
  subst hs
  rw [Addr.add_lit] at g1
  exact ⟨b, off, rfl, hb, g1⟩
theorem RI.below {w w' : World} {B : Nat} {A : Option Addr} {l : List Int} (h : RI w B A l) (hb : Below B w w') : RI w' B A l := Reads.below h hb
theorem open_ints_in {H : Type} {enc : TypeId × Value → H} {W : World} {A : Option Addr} {len cap : Nat} {d : DataW H} {p : List MemPlace} (h : DataW.Trod enc Tryz.prog W 0 (fun _ => true) true 28 (.slice A len cap) d p) :
    ∃ l : List Int, l.length = len ∧ RI W W.heap.size A l ∧ ∀ x ∈ l, (Lit.int .i64 x).wf = true := by
  obtain ⟨fuel, hf⟩ := h
  rcases open_ints Tryz.underlying28 Tryz.underlying3 (by kernel_rfl) hf with ⟨hcs, _⟩ | ⟨a, len', cap', zs, hcs, _, hl, hm, hlen, hx, hi, hw⟩
  · simp [Value.cells] at hcs
    obtain ⟨rfl, rfl, rfl⟩ := hcs
    exact ⟨[], rfl, ⟨by simp, fun h => absurd h (by simp)⟩, fun x hx => by cases hx⟩
  · simp [Value.cells] at hcs
    obtain ⟨rfl, rfl, rfl⟩ := hcs
    simp only [if_true] at hlen
    refine ⟨zs.take len, by simp; omega, ⟨by simp, fun hpos => ⟨a, rfl, ?_, ?_⟩⟩, fun x hx => hw x (List.mem_of_mem_take hx)⟩
    · have hb := World.block_lt_of_cell? W _ (hi 0 (by simp at hpos; omega))
      rwa [block_of_add] at hb
    · intro j u hu
      have hj : j < (zs.take len).length := by
        have := (List.getElem?_eq_some_iff.1 hu).1
        simpa using this
      rw [List.getElem?_map, List.getElem?_eq_getElem hj] at hu
      simp only [Option.map_some, Option.some.injEq] at hu
      subst hu
      have hj2 : j < zs.length := by simp at hj; omega
      rw [hi j hj2]
      simp [encI, List.getElem_take, List.getElem?_eq_getElem hj2]
end Go.Proofs.YtlgbcogdogpihaaGreatDoor
