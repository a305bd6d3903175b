/- The walk of alloc's Taken: slices.Sorted(maps.Keys(t.fresh)). -/
import Derived.Test.YtlgbcogdogpihaaGreatDoorQTakenP
import Derived.Test.YtlgbcogdogpihaaGreatDoorQKeysLay
import Derived.Test.YtlgbcogdogpihaaGreatDoorQValues
namespace Go.Proofs.YtlgbcogdogpihaaGreatDoor
open Go.RowKit Go.Shelf Go.Maps
theorem sortsC (m : Nat) : AnyZI.SortsIn Tryz.prog Tryz.sortedC_ren Fence.wide m :=
  ⟨fun blk off cap ss W hH hblk hsz => callsIn_wide.2 (AnyM.slices_Sort_int Tryz.sortC blk off cap ss W hH hblk hsz),
   fun p cap W => callsIn_wide.2 (AnyM.slices_Sort_int_none Tryz.sortC p cap W)⟩
theorem ints_cells (l : List Int) : intE.cells l = l.map (Value.int .i64) := by
  induction l with
  | nil => rfl
  | cons a l ih => rw [intE.cells_cons, ih]; rfl
/-- the keys, in order -/
def TakenEnd2 (D : DataW Value) (w : World) (e : Ending) (w' : World) : Prop := ∃ A c ss, e = .returned (.slice A ss.length c) ∧ ss.Perm (intKeys D) ∧ ss.length = Maps.size D ∧ LO intE 3 w' w.heap.size (.slice A ss.length c) ss ∧ Below w.heap.size w w'
set_option maxRecDepth 100000 in
set_option maxHeartbeats 1000000 in
theorem taken_list (t m f n k : Nat) (free : List Run) (pages : Int) (D : DataW Value) (w : World) (hk : k ≤ 1000000) (h : Txn w t m f n free pages k D) :
    Calls Tryz.prog 63 #[.pointer (some ⟨t, 0, none⟩)] w (TakenEnd2 D w) := by
  obtain ⟨_, ⟨v, h2, h3⟩, hown⟩ := h
  have hlt := h2.lt
  have hc := h2.cell 3
  have hsz := hown.size_le
  have hlen : (intKeys D).length = Maps.size D := by
    obtain ⟨es, rfl⟩ := hown.isMap
    simp [intKeys, Maps.size]
  refine (callsIn_wide (n := 6)).1 ?_
  have hbl := hown.lt
  have hseq : SeqGives Fence.wide 2 Tryz.prog 141 #[.pointer (some ⟨w.heap.size, 0, none⟩)] encZ (fun ss => ss.Perm (intKeys D)) (Maps.size D) (w.alloc (.cells #[.map (some m)] 115)) :=
    AnyZI.keys_gives (ρ := Tryz.keysC_ren) { Tryz.keysC with } Fence.wide _ trivial rfl (by omega) w.heap.size m k D _ (by simp) (by simp) (by
      obtain ⟨es, clock, hb, Ft, hs, hD⟩ := hown
      exact ⟨es, clock, (Below.heap_alloc _ _ m hbl).trans hb, Ft, hs, hD⟩)
  have cK : ∀ mb W, CallsIn Fence.wide 5 Tryz.prog 106 #[.map mb] W fun e w' => e = .returned (.func (.func 141) #[] #[.pointer (some ⟨W.heap.size, 0, none⟩)]) ∧ w' = W.alloc (.cells #[.map mb] 115) := fun mb W => AnyZI.keys_in Tryz.keysC Fence.wide 5 trivial rfl mb W
  have cS := AnyZI.sorted_in Tryz.sortedC Fence.wide 5 trivial trivial trivial trivial rfl (by omega) (sortsC _) (enters_of Tryz.func84 (by kernel_rfl) rfl) 141 #[.pointer (some ⟨w.heap.size, 0, none⟩)] trivial (enters_of Tryz.func141 (by kernel_rfl) rfl) _ _ (by unfold maxLen; omega) (by omega) _ hseq
  change CallsIn _ _ Tryz.prog 40 _ _ _ at cS
  have hfK : Fence.wide.fn 106 := trivial
  have hfS : Fence.wide.fn 40 := trivial
  refine callsIn_of_wp Tryz.func63 rfl trivial ?_ rfl
  simp only [Tryz.ntmps63, List.size_toArray, List.length_cons, List.length_nil, Nat.reduceAdd, Nat.reduceSub, Array.replicate_succ, Array.replicate_zero, List.push_toArray, List.append_toArray, List.nil_append, List.cons_append]
  gi_wp2_with (first
    | (gi_at_call 106; refine (cK _ _).mono ?_; rintro e w' ⟨rfl, rfl⟩)
    | (gi_at_call 40; refine cS.mono ?_; rintro e w' ⟨v, ss, rfl, hS, hrow, hnil, hb⟩))
  go_ret
  have hl : ss.length = Maps.size D := hS.length_eq.trans hlen
  have hb0 : Below w.heap.size w w' := ((Below.refl _ w).alloc (Nat.le_refl _) _).trans (hb.mono (by simp))
  have hzl : (ss.mergeSort fun x y => decide (x ≤ y)).length = ss.length := List.length_mergeSort ss
  have hzp : (ss.mergeSort fun x y => decide (x ≤ y)).Perm (intKeys D) := (List.mergeSort_perm ss _).trans hS
  have hLO : LO intE 3 w' w.heap.size v (ss.mergeSort fun x y => decide (x ≤ y)) := by
    unfold LO
    rw [ints_cells, hzl]
    exact own_lower hrow (by simp)
  obtain ⟨A, c, rfl⟩ := hLO.form
  exact ⟨A, c, _, rfl, hzp, hzl.trans hl, hLO, hb0⟩
theorem taken_said : TakenSaid := by
  intro t m f n k free pages D w hk h
  refine (taken_list t m f n k free pages D w hk h).mono ?_
  rintro e w' ⟨A, c, ss, rfl, _, hl, _, hb⟩
  exact ⟨A, c, by rw [hl], hb⟩
end Go.Proofs.YtlgbcogdogpihaaGreatDoor
