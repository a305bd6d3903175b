/- The walk of alloc's Taken: slices.Sorted(maps.Keys(t.fresh)). -/
import Derived.Test.YtknlcfiphkbbaaaTakenP
import Derived.Test.YtknlcfiphkbbaaaKeysLay
namespace Go.Proofs.Ytknlcfiphkbbaaa
open Go.RowKit Go.Shelf Go.Maps
theorem sortsC (m : Nat) : AnyZI.SortsIn Try.prog Try.sortedC_ren Fence.wide m :=
  ⟨fun blk off cap ss W hH hblk hsz => callsIn_wide.2 (AnyM.slices_Sort_int Try.sortC blk off cap ss W hH hblk hsz),
   fun p cap W => callsIn_wide.2 (AnyM.slices_Sort_int_none Try.sortC p cap W)⟩
set_option maxRecDepth 100000 in
set_option maxHeartbeats 1000000 in
theorem taken_said : TakenSaid := by
  intro t m f n k free pages D w hk h
  obtain ⟨_, ⟨v, h2, h3⟩, hown⟩ := h
  have hlt := h2.lt
  have hc := h2.cell 3
  have hsz := hown.size_le
  have hlen : (intKeys D).length = Maps.size D := by
    obtain ⟨es, rfl⟩ := hown.isMap
    simp [intKeys, Maps.size]
  refine (callsIn_wide (n := 6)).1 ?_
  have hbl := hown.lt
  have hseq : SeqGives Fence.wide 2 Try.prog 73 #[.pointer (some ⟨w.heap.size, 0, none⟩)] encZ (fun ss => ss.Perm (intKeys D)) (Maps.size D) (w.alloc (.cells #[.map (some m)] 71)) :=
    AnyZI.keys_gives (ρ := Try.keysC_ren) { Try.keysC with } Fence.wide _ trivial rfl (by omega) w.heap.size m k D _ (by simp) (by simp) (by
      obtain ⟨es, clock, hb, Ft, hs, hD⟩ := hown
      exact ⟨es, clock, (Below.heap_alloc _ _ m hbl).trans hb, Ft, hs, hD⟩)
  have cK : ∀ mb W, CallsIn Fence.wide 5 Try.prog 54 #[.map mb] W fun e w' => e = .returned (.func (.func 73) #[] #[.pointer (some ⟨W.heap.size, 0, none⟩)]) ∧ w' = W.alloc (.cells #[.map mb] 71) := fun mb W => AnyZI.keys_in Try.keysC Fence.wide 5 trivial rfl mb W
  have cS := AnyZI.sorted_in Try.sortedC Fence.wide 5 trivial trivial trivial trivial rfl (by omega) (sortsC _) (enters_of Try.func72 (by kernel_rfl) rfl) 73 #[.pointer (some ⟨w.heap.size, 0, none⟩)] trivial (enters_of Try.func73 (by kernel_rfl) rfl) _ _ (by unfold maxLen; omega) (by omega) _ hseq
  change CallsIn _ _ Try.prog 53 _ _ _ at cS
  have hfK : Fence.wide.fn 54 := trivial
  have hfS : Fence.wide.fn 53 := trivial
  refine callsIn_of_wp Try.func30 rfl trivial ?_ rfl
  simp only [Try.ntmps30, List.size_toArray, List.length_cons, List.length_nil, Nat.reduceAdd, Nat.reduceSub, Array.replicate_succ, Array.replicate_zero, List.push_toArray, List.append_toArray, List.nil_append, List.cons_append]
  gi_wp2_with (first
    | (gi_at_call 54; refine (cK _ _).mono ?_; rintro e w' ⟨rfl, rfl⟩)
    | (gi_at_call 53; refine cS.mono ?_; rintro e w' ⟨v, ss, rfl, hS, hrow, hnil, hb⟩))
  go_ret
  have hl : ss.length = Maps.size D := hS.length_eq.trans hlen
  unfold TakenEnd
  rw [← hl]
  have hb0 : Below w.heap.size w w' := ((Below.refl _ w).alloc (Nat.le_refl _) _).trans (hb.mono (by simp))
  rcases hrow.2 with ⟨e, h0⟩ | ⟨g, cap, cur, e, _⟩
  · exact ⟨none, 0, by rw [e, h0]; rfl, hb0⟩
  · exact ⟨_, cap, by rw [e]; rfl, hb0⟩
end Go.Proofs.Ytknlcfiphkbbaaa
