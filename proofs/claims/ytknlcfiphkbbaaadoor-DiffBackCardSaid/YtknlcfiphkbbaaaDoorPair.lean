/- Two sides in memory; the walks of treediff's top, pop. -/
import Derived.Test.YtknlcfiphkbbaaaDoorEnt2
import Derived.Test.YtknlcfiphkbbaaaDoorDiffP
import Derived.Deep.RegionLaw
namespace Go.Proofs.YtknlcfiphkbbaaaDoor
open Go.RowKit
abbrev Dl := En.Dl
def itemE : Enc Ent := ⟨fun x => [.int .i64 0, .int .i64 0, .string x.1, .string x.2], 4, fun _ => rfl, by decide, fun x u hu => by simp at hu; rcases hu with rfl | rfl | rfl | rfl <;> rfl⟩
def dlE : Enc Dl := ⟨fun d => [.string d.key, .string d.old, .string d.new, .bool d.was, .bool d.is], 5, fun _ => rfl, by decide, fun x u hu => by simp at hu; rcases hu with rfl | rfl | rfl | rfl | rfl <;> rfl⟩
theorem eiItem : EI Tryd.prog 63 (.agg #[.int .i64 0, .int .i64 0, .string ⟨#[]⟩, .string ⟨#[]⟩]) 4 48 := EI.mk (by kernel_rfl)
theorem eiDl : EI Tryd.prog 37 (.agg #[.string ⟨#[]⟩, .string ⟨#[]⟩, .string ⟨#[]⟩, .bool false, .bool false]) 5 56 := EI.mk (by kernel_rfl)
theorem LO.last {α : Type} {E : Enc α} {ty : TypeId} {w : World} {base : Nat} {v : Value} {l : List α} {x : α} (h : LO E ty w base v (l ++ [x])) : ∃ g c, v = .slice (some ⟨g, 0, none⟩) (l.length + 1) c ∧ base ≤ g ∧ g < w.heap.size ∧ l.length + 1 ≤ c ∧ (∀ j, j < E.size → w.cell? ⟨g, l.length * E.size + j, none⟩ = (E.enc x)[j]?) ∧ LO E ty w base (.slice (some ⟨g, 0, none⟩) l.length c) l := by
  rcases h.2 with ⟨rfl, h0⟩ | ⟨g, cap, cur, rfl, hg, hh, hnc, hcm, hcs, htk⟩
  · simp at h0
  · have hlen : (l ++ [x]).length = l.length + 1 := by simp
    rw [hlen] at hnc htk ⊢
    have hlt : g < w.heap.size := (Array.getElem?_eq_some_iff.1 hh).1
    refine ⟨g, cap, rfl, hg, hlt, hnc, fun j hj => ?_, ⟨E.cells_length l, .inr ⟨g, cap, cur, rfl, hg, hh, by omega, hcm, hcs, ?_⟩⟩⟩
    · have h1 := E.cells_at (l ++ [x]) l.length (by simp) j hj
      rw [List.getElem_append_right (Nat.le_refl _)] at h1
      simp only [Nat.sub_self, List.getElem_cons_zero] at h1
      rw [← h1, ← htk, List.getElem?_take, if_pos (by rw [Nat.succ_mul]; omega), cell_of_row w g _ cur ty (0, 0) hh]
      simp
    · have e2 : cur.toList.take (l.length * E.size) = (cur.toList.take ((l.length + 1) * E.size)).take (l.length * E.size) := by
        rw [List.take_take, Nat.min_eq_left (Nat.mul_le_mul_right _ (by omega))]
      rw [e2, htk, E.cells_take, List.take_left]
/-- a side: what is still to be gone through -/
def SideV (w : World) (base : Nat) (v : Value) (a : List Ent) : Prop := LO itemE 63 w base v a.reverse
theorem SideV.nil {w : World} {base : Nat} {v : Value} (h : SideV w base v []) : ∃ A c, v = .slice A 0 c := LO.form h
theorem SideV.cons {w : World} {base : Nat} {v : Value} {x : Ent} {a : List Ent} (h : SideV w base v (x :: a)) : ∃ g c, v = .slice (some ⟨g, 0, none⟩) (a.length + 1) c ∧ base ≤ g ∧ g < w.heap.size ∧ a.length + 1 ≤ c ∧
    (w.cell? ⟨g, a.length * 4, none⟩ = some (.int .i64 0) ∧ w.cell? ⟨g, a.length * 4 + 1, none⟩ = some (.int .i64 0) ∧ w.cell? ⟨g, a.length * 4 + 2, none⟩ = some (.string x.1) ∧ w.cell? ⟨g, a.length * 4 + 3, none⟩ = some (.string x.2)) ∧
    SideV w base (.slice (some ⟨g, 0, none⟩) a.length c) a := by
  have h' : LO itemE 63 w base v (a.reverse ++ [x]) := by have := h; unfold SideV at this; rwa [List.reverse_cons] at this
  obtain ⟨g, c, hv, h1, h2, h3, h4, h5⟩ := LO.last h'
  rw [List.length_reverse] at hv h3 h4 h5
  exact ⟨g, c, hv, h1, h2, h3, ⟨h4 0 (by decide), h4 1 (by decide), h4 2 (by decide), h4 3 (by decide)⟩, h5⟩
set_option maxRecDepth 100000 in
set_option maxHeartbeats 800000 in
theorem top_nil (g o : Nat) (A : Option Addr) (c : Nat) (w : World) (hg : g < w.heap.size) (hc : w.cell? ⟨g, o + 1, none⟩ = some (.slice A 0 c)) :
    Calls Tryd.prog 27 #[.pointer (some ⟨g, o, none⟩)] w fun e w' => e = .returned (.tuple #[.agg #[.int .i64 0, .int .i64 0, .string ⟨#[]⟩, .string ⟨#[]⟩], .bool false]) ∧ Below w.heap.size w w' := by
  go_enter Tryd.func27, Tryd.ntmps27
  go_wp2
  refine bodyPost_ret (v := .tuple #[.agg #[.int .i64 0, .int .i64 0, .string ⟨#[]⟩, .string ⟨#[]⟩], .bool false]) (by simp [results, Tryd.results27, go_sem]) rfl ⟨rfl, ?_⟩
  exact (Below.refl _ _).alloc (Nat.le_refl _) _
set_option maxRecDepth 100000 in
set_option maxHeartbeats 2000000 in
theorem top_cons (g o gi : Nat) (n c : Nat) (x : Ent) (w : World) (hg : g < w.heap.size) (hgi : gi < w.heap.size) (hn : n ≤ 1000000) (hc : w.cell? ⟨g, o + 1, none⟩ = some (.slice (some ⟨gi, 0, none⟩) (n + 1) c))
    (h0 : w.cell? ⟨gi, n * 4, none⟩ = some (.int .i64 0)) (h1 : w.cell? ⟨gi, n * 4 + 1, none⟩ = some (.int .i64 0)) (h2 : w.cell? ⟨gi, n * 4 + 2, none⟩ = some (.string x.1)) (h3 : w.cell? ⟨gi, n * 4 + 3, none⟩ = some (.string x.2)) :
    Calls Tryd.prog 27 #[.pointer (some ⟨g, o, none⟩)] w fun e w' => e = .returned (.tuple #[.agg #[.int .i64 0, .int .i64 0, .string x.1, .string x.2], .bool true]) ∧ Below w.heap.size w w' := by
  go_enter Tryd.func27, Tryd.ntmps27
  go_wp2_with fail
  go_region
  go_wp2
  refine bodyPost_ret (v := .tuple #[.agg #[.int .i64 0, .int .i64 0, .string x.1, .string x.2], .bool true]) (by simp [results, Tryd.results27, go_sem]) rfl ⟨rfl, ?_⟩
  exact ((Below.refl _ _).alloc (Nat.le_refl _) _).drew
set_option maxRecDepth 100000 in
set_option maxHeartbeats 2000000 in
theorem pop_any (g o gi : Nat) (n c : Nat) (w : World) (hn : n ≤ 1000000) (hnc : n + 1 ≤ c) (hc : w.cell? ⟨g, o + 1, none⟩ = some (.slice (some ⟨gi, 0, none⟩) (n + 1) c)) (hf : w.frozen? ⟨g, o + 1, none⟩ = false) :
    Calls Tryd.prog 28 #[.pointer (some ⟨g, o, none⟩)] w fun e w' => e = .returned (.tuple #[]) ∧ w' = (w.setCell ⟨g, o + 1, none⟩ (.slice (some ⟨gi, 0, none⟩) n c)).drew := by
  have hn2 : (n : Int) ≤ c := by omega
  go_enter Tryd.func28, Tryd.ntmps28
  go_wp2_with fail
  go_region
  go_end0
  exact ⟨rfl, rfl⟩
end Go.Proofs.YtknlcfiphkbbaaaDoor
