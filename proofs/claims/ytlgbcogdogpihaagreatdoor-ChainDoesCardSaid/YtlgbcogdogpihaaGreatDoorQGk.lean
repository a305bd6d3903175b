/- What the library's sort and Compact do to a row of ints of the call's own. slices.Sorted(slices.Values(ids)), slices.Compact. -/
import Derived.Shelf.SortM.Plain
import Derived.Shelf.Slices.CompactI
import Derived.Shelf.SortM.SortNone
import Derived.Test.YtlgbcogdogpihaaGreatDoorQAppSeq
import Derived.Test.YtlgbcogdogpihaaGreatDoorQIntLay
namespace Go.Proofs.YtlgbcogdogpihaaGreatDoor
open Go.RowKit Go.Sort Go.Shelf
theorem int_cells (l : List Int) : intE.cells l = l.map (Value.int .i64) := by
  induction l with
  | nil => rfl
  | cons x l ih => rw [Enc.cells_cons, ih]; rfl
theorem int_holds {w : World} {base g cap n : Nat} {l : List Int} (h : w.ownsRow base 3 1 (.slice (some ⟨g, 0, none⟩) n cap) n (l.map (Value.int .i64))) : Holds (Value.int .i64) w g 0 l.toArray := by
  have hn : n = l.length := by have := h.1; simpa using this.symm
  intro j hj
  have hj' : j < l.length := by simpa using hj
  refine ⟨?_, ?_⟩
  · rw [Nat.zero_add, h.cellAt j (by omega)]
    simp [hj']
  · rw [Nat.zero_add]; exact h.frozenAt j
theorem int_put {w : World} {base g cap n : Nat} {l : List Int} (h : w.ownsRow base 3 1 (.slice (some ⟨g, 0, none⟩) n cap) n (l.map (Value.int .i64))) (q : Nat) (d : Array Int) (os : Array Obj) (hd : d.size = l.length) :
    (grow (putRow (Value.int .i64) (Sort.ahead w q) g 0 d) os).ownsRow base 3 1 (.slice (some ⟨g, 0, none⟩) n cap) n (d.toList.map (Value.int .i64)) ∧ w.grownBy (grow (putRow (Value.int .i64) (Sort.ahead w q) g 0 d) os) (some g) := by
  have hn : n = l.length := by have := h.1; simpa using this.symm
  rcases h.2 with ⟨hv, _⟩ | ⟨g', cap', cur, hv, hb, hh, hc, hm, hs, ht⟩
  · cases hv
  · injection hv with e1 e2 e3
    injection e1 with e1
    injection e1 with e1
    subst e1 e3
    have hlt : g < w.heap.size := by
      rcases Nat.lt_or_ge g w.heap.size with hlt | hge
      · exact hlt
      · rw [Array.getElem?_eq_none hge] at hh; cases hh
    have hheap : (grow (putRow (Value.int .i64) (Sort.ahead w q) g 0 d) os).heap[g]? = some (.cells (putCells (Value.int .i64) 0 d cur) 3 (0, 0)) := by
      rw [heap_grow_old _ _ (by simpa using hlt)]
      unfold putRow mapBlock
      simp only [Array.getElem?_modify, heap_ahead, if_true, hh]
      rfl
    refine ⟨⟨by simp [hd, hn], .inr ⟨g, cap, _, rfl, hb, hheap, hc, hm, by unfold putCells; simpa using hs, ?_⟩⟩, ?_⟩
    · apply List.ext_getElem?
      intro t
      by_cases htk : t < n * 1
      · rw [List.getElem?_take_of_lt htk]
        have htc : t < cur.size := by omega
        have htd : t < d.size := by omega
        unfold putCells
        simp only [Array.getElem?_toList, Array.getElem?_mapIdx]
        rw [Array.getElem?_eq_getElem htc]
        simp [htd]
      · rw [List.getElem?_eq_none (by simp; omega), List.getElem?_eq_none (by simp; omega)]
    · refine ⟨rfl, rfl, rfl, by simp, fun i hi hne => ?_⟩
      rw [heap_grow_old _ _ (by simpa using hi)]
      unfold putRow mapBlock
      have : g ≠ i := fun h => hne (by rw [h])
      simp [Array.getElem?_modify, this]
end Go.Proofs.YtlgbcogdogpihaaGreatDoor
namespace Go.Proofs.YtlgbcogdogpihaaGreatDoor
open Go.RowKit Go.Sort Go.Shelf
theorem collect_any (A : Option Addr) (c Bn : Nat) (zs : List Int) (hl : zs.length ≤ 100000) (w : World) (hr : LS intE w w.heap.size A zs) (hb : Blk w Bn 28 #[.slice A zs.length c]) :
    Calls Tryz.prog 83 #[.func (.func 85) #[] #[.pointer (some ⟨Bn, 0, none⟩)]] w (LEnd intE 3 zs w) := by
  have h := appseq_any A c Bn zs hl w hr hb
  go_enter Tryz.func83, Tryz.ntmps83
  go_wp2_with (go_at_call 124; refine h.mono ?_; rintro e w1 ⟨v, rfl, ho, hbe⟩)
  go_ret
  exact ⟨_, rfl, ho, hbe⟩
def sortI (zs : List Int) : List Int := zs.mergeSort fun x y => decide (x ≤ y)
theorem sortI_len (zs : List Int) : (sortI zs).length = zs.length := by unfold sortI; rw [List.length_mergeSort]
/-- the library's sort at an own row of ints -/
theorem isort_any {base : Nat} {v : Value} {zs : List Int} {w : World} (ho : LO intE 3 w base v zs) (hl : zs.length ≤ 100000) :
    Calls Tryz.prog 84 #[v] w fun e w' => e = .returned (.tuple #[]) ∧ LO intE 3 w' base v (sortI zs) ∧ Below base w w' := by
  have hown : w.ownsRow base 3 1 v zs.length (zs.map (Value.int .i64)) := by have h := ho.raw rfl (s := 1) rfl; rwa [int_cells] at h
  rcases hown.2 with ⟨rfl, h0⟩ | ⟨g, cap, cur, rfl, hb, hh, hc⟩
  · have hl0 : zs = [] := List.eq_nil_of_length_eq_zero h0
    subst hl0
    refine Calls.mono (AnyM.slices_Sort_int_none Tryz.sortC none 0 w) ?_
    rintro e w' ⟨rfl, rfl⟩
    exact ⟨rfl, by rw [show sortI [] = [] by simp [sortI]]; exact ho, Below.refl _ _⟩
  · have hlt : g < w.heap.size := (hown.lt g rfl).2
    refine Calls.mono (AnyM.slices_Sort_int Tryz.sortC g 0 cap zs w (int_holds hown) hlt (by omega)) ?_
    rintro e w' ⟨rfl, n, os, rfl⟩
    obtain ⟨h1, h2⟩ := int_put hown n (zs.mergeSort fun x y => decide (x ≤ y)).toArray os (by simp)
    refine ⟨rfl, ?_, (Below.refl _ _).grown h2 (by omega) (fun k e => by cases e; exact hb)⟩
    have h1 : World.ownsRow _ base 3 1 (.slice (some ⟨g, 0, none⟩) zs.length cap) zs.length ((sortI zs).map (Value.int .i64)) := h1
    rw [← int_cells, ← sortI_len] at h1
    unfold LO
    rw [sortI_len] at h1 ⊢
    exact h1
theorem sorted_any (A : Option Addr) (c Bn : Nat) (zs : List Int) (hl : zs.length ≤ 100000) (w : World) (hr : LS intE w w.heap.size A zs) (hb : Blk w Bn 28 #[.slice A zs.length c]) :
    Calls Tryz.prog 40 #[.func (.func 85) #[] #[.pointer (some ⟨Bn, 0, none⟩)]] w (LEnd intE 3 (sortI zs) w) := by
  have h := collect_any A c Bn zs hl w hr hb
  have hs := fun v W (ho : LO intE 3 W w.heap.size v zs) => isort_any ho hl
  go_enter Tryz.func40, Tryz.ntmps40
  go_wp2_with fail
  refine h.mono ?_
  rintro e w1 ⟨v, rfl, ho, hbe⟩
  go_wp2_with fail
  refine Calls.mono (hs v w1 ho) ?_
  rintro e w2 ⟨rfl, ho2, hb2⟩
  go_wp2
  go_ret
  exact ⟨_, rfl, ho2, hbe.trans hb2⟩
/-- slices.Compact at an own row of ints: how long it is -/
theorem compact_any {base : Nat} {v : Value} {zs : List Int} {w : World} (ho : LO intE 3 w base v zs) (hl : zs.length ≤ 100000) :
    Calls Tryz.prog 42 #[v] w fun e w' => (∃ A c, e = .returned (.slice A (Lib.compact zs).length c)) ∧ Below base w w' := by
  have hown : w.ownsRow base 3 1 v zs.length (zs.map (Value.int .i64)) := by have h := ho.raw rfl (s := 1) rfl; rwa [int_cells] at h
  rcases hown.2 with ⟨rfl, h0⟩ | ⟨g, cap, cur, rfl, hb, hh, hc, hm, _⟩
  · have hl0 : zs = [] := List.eq_nil_of_length_eq_zero h0
    subst hl0
    refine Calls.mono (Any.slices_Compact_int_empty Tryz.lays20 none 0 w) ?_
    rintro e w' ⟨rfl, rfl⟩
    exact ⟨⟨none, 0, rfl⟩, Below.refl _ _⟩
  · have hlt : g < w.heap.size := (hown.lt g rfl).2
    refine Calls.mono (Any.slices_Compact_int Tryz.lays20 g 0 cap zs w (int_holds hown) (by omega) hc) ?_
    rintro e w' ⟨rfl, q, rfl⟩
    refine ⟨⟨_, _, rfl⟩, (Below.refl _ _).grown (row := some g) ?_ (by omega) (fun k e => by cases e; exact hb)⟩
    refine ⟨rfl, rfl, rfl, by simp, fun i hi hne => ?_⟩
    unfold putRow mapBlock
    have : g ≠ i := fun h => hne (by rw [h])
    simp [Array.getElem?_modify, this]
end Go.Proofs.YtlgbcogdogpihaaGreatDoor
