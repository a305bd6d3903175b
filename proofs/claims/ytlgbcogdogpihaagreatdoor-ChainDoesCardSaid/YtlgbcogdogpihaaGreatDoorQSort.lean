/- What slices.SortFunc does to a row of runs: the contract of the shelf, at this seat's numbers, in the words of owned rows. -/
import Derived.Shelf.SlSortCmp.NoneTotal
import Derived.Test.YtlgbcogdogpihaaGreatDoorQSortLay
import Derived.Test.YtlgbcogdogpihaaGreatDoorQSortMem
import Derived.Test.YtlgbcogdogpihaaGreatDoorQGb
namespace Go.Proofs.YtlgbcogdogpihaaGreatDoor
open Go.RowKit Go.Sort Go.Lib Go.Shelf
theorem cf_lt (x y : Run) : ltOf (fun x y : Run => Lib.compareInt x.1 y.1) x y = decide (x.1 < y.1) := by
  unfold ltOf Lib.compareInt
  by_cases h1 : x.1 < y.1
  · simp [h1]
  · by_cases h2 : y.1 < x.1 <;> simp [h1, h2]
theorem cf_swo : SWO (ltOf fun x y : Run => Lib.compareInt x.1 y.1) where
  irrefl x := by rw [cf_lt]; simp
  trans x y z h1 h2 := by rw [cf_lt] at *; simp at *; omega
  ntrans x y z h1 h2 := by rw [cf_lt] at *; simp at *; omega
set_option maxHeartbeats 1000000 in
theorem closure_any (x y : Run) (W : World) : Calls Tryz.prog 46 #[.agg #[.int .i64 x.1, .int .i64 x.2], .agg #[.int .i64 y.1, .int .i64 y.2]] W fun e w' => e = .returned (.int .i64 (Lib.compareInt x.1 y.1)) ∧ ∃ q os', w' = grow (W.drewN q) os' := by
  have hcon := fun W' => AnyG.cmp_Compare_int Tryz.cmpInt x.1 y.1 W'
  change ∀ W', Calls Tryz.prog 47 _ _ _ at hcon
  generalize Lib.compareInt x.1 y.1 = r at hcon ⊢
  go_enter Tryz.func46, Tryz.ntmps46
  go_wp2_with (go_at_call 47; refine (hcon _).mono ?_; rintro e w' ⟨rfl, rfl⟩)
  go_ret
  exact ⟨rfl, 0, _, by rw [alloc_eq_grow, alloc_eq_grow, grow_grow]; rfl⟩
theorem sort_said : SortSaid := by
  intro v l base w ho hl
  have eg : ∀ args w, (callFunc 46 args).run Tryz.prog w = .ok (.enter 46 args) w := enters_of Tryz.func46 (by kernel_rfl) rfl
  rcases ho.2 with ⟨rfl, h0⟩ | ⟨g, cap, cur, rfl, hb, hh, hc⟩
  · have hl0 : l = [] := List.eq_nil_of_length_eq_zero h0
    subst hl0
    refine Calls.mono (AnyF.slices_SortFunc_none Tryz.sortRun none 0 _ w) ?_
    rintro e w' ⟨rfl, rfl⟩
    exact ⟨rfl, ⟨[], List.Perm.refl _, List.Pairwise.nil, ho⟩, World.grownBy.refl _ _⟩
  · have hlt : g < w.heap.size := (ho.lt g rfl).2
    have hH : HoldsK encR 2 w g 0 l.toArray := own_holds encR 2 (fun _ => rfl) (by omega) rfl ho
    have hcon := AnyQ.slices_SortFunc Tryz.sortRun 2 Tryz.isAgg62 Tryz.sizeOf62 encR (fun _ => rfl) (fun x v hv => by simp [encR] at hv; rcases hv with rfl | rfl <;> rfl) (fun x y => Lib.compareInt x.1 y.1) cf_swo 46 #[] g 0 cap l.toArray w eg (fun _ _ _ _ x y => closure_any x y _) hH hlt (by simp; omega)
    refine Calls.mono hcon ?_
    rintro e w' ⟨rfl, d', n, os, hp, hs, rfl⟩
    obtain ⟨hp1, _, hp3⟩ := hp
    have hsz : d'.size = l.length := by rw [hp1]; simp
    obtain ⟨h1, h2⟩ := own_sorted encR 2 (fun _ => rfl) (by omega) (l := l) rfl ho n d' os hsz
    have hperm : d'.toList.Perm l := by
      have e1 : d'.extract 0 l.toArray.size = d' := by rw [← hp1]; simp
      have e2 : l.toArray.extract 0 l.toArray.size = l.toArray := by simp
      rw [e1, e2] at hp3
      simpa using hp3
    refine ⟨rfl, ⟨d'.toList, hperm, ?_, ?_⟩, h2⟩
    · rw [List.pairwise_iff_getElem]
      intro i j hi hj hij
      have := hs i j (Nat.zero_le _) hij (by simp at hj; simp; omega)
      rw [cf_lt] at this
      simp at this hi hj
      rw [getElem!_pos d' i hi, getElem!_pos d' j hj] at this
      simp only [Array.getElem_toList]
      exact this
    · unfold Own
      have e : d'.toList.length = l.length := by rw [Array.length_toList, hsz]
      rw [e]
      exact h1
end Go.Proofs.YtlgbcogdogpihaaGreatDoor
