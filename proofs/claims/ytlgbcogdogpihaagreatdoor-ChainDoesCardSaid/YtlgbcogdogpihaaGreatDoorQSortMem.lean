/- What a sort of the library does to a row of the call's own, in the words of owned rows. -/
import Derived.Shelf.GgSortFunc.InsertionK
import Derived.Test.YtlgbcogdogpihaaGreatDoorQGa
namespace Go.Proofs.YtlgbcogdogpihaaGreatDoor
open Go.RowKit Go.Sort
section
variable {α : Type} [Inhabited α] (enc : α → List Value) (k : Nat)
theorem arr_get (d : Array α) (i : Nat) : d.toList[i]! = d[i]! := by
  rw [List.getElem!_eq_getElem?_getD, Array.getElem!_eq_getD, Array.getD_eq_getD_getElem?, Array.getElem?_toList]
theorem flat_get (hk : ∀ x, (enc x).length = k) (h0 : 0 < k) : ∀ (l : List α) (t : Nat), t < l.length * k → (l.flatMap enc)[t]? = some (enc l[t / k]!)[t % k]!
  | [], t, h => by simp at h
  | x :: l, t, h => by
    rw [List.flatMap_cons]
    by_cases ht : t < k
    · rw [List.getElem?_append_left (by rw [hk]; exact ht), Nat.div_eq_of_lt ht, Nat.mod_eq_of_lt ht]
      have hl : t < (enc x).length := by rw [hk]; exact ht
      simp [hl]
    · have hk' : k ≤ t := by omega
      have hlt : t - k < l.length * k := by rw [List.length_cons, Nat.add_mul] at h; omega
      rw [List.getElem?_append_right (by rw [hk]; exact hk'), hk, flat_get hk h0 l (t - k) hlt]
      have e1 : t / k = (t - k) / k + 1 := by rw [← Nat.sub_add_cancel hk', Nat.add_div_right _ h0]; simp
      have e2 : t % k = (t - k) % k := by rw [← Nat.sub_add_cancel hk', Nat.add_mod_right]; simp
      rw [e1, e2]
      simp
omit [Inhabited α] in
theorem flat_len (hk : ∀ x, (enc x).length = k) (l : List α) : (l.flatMap enc).length = l.length * k := by
  induction l with
  | nil => simp
  | cons x l ih => rw [List.flatMap_cons, List.length_append, ih, hk, List.length_cons, Nat.add_mul]; omega
theorem flatK_list (hk : ∀ x, (enc x).length = k) (h0 : 0 < k) (d : Array α) : flatK enc k d = (d.toList.flatMap enc).toArray := by
  refine ext_get! (by simp [flat_len enc k hk]) fun t ht => ?_
  have ht' : t < d.size * k := by simpa using ht
  rw [get_flatK enc k d t ht']
  have := flat_get enc k hk h0 d.toList t (by simpa using ht')
  have e : (d.toList.flatMap enc).toArray[t]? = some (enc d.toList[t / k]!)[t % k]! := by rw [← this]; simp
  have e2 : (d.toList.flatMap enc).toArray[t]! = (enc d.toList[t / k]!)[t % k]! := by
    rw [Array.getElem!_eq_getD, Array.getD_eq_getD_getElem?, e]; rfl
  rw [e2, arr_get d (t / k)]
theorem own_holds {w : World} {base e g cap n : Nat} {xs : List Value} (hk : ∀ x, (enc x).length = k) (h0 : 0 < k) {l : List α} (hx : xs = l.flatMap enc)
    (h : w.ownsRow base e k (.slice (some ⟨g, 0, none⟩) n cap) n xs) : HoldsK enc k w g 0 l.toArray := by
  subst hx
  have hn : n * k = l.length * k := by have := h.1; rw [flat_len enc k hk] at this; exact this.symm
  intro j hj
  rw [size_flatK] at hj
  have hj' : j < l.length * k := by simpa using hj
  refine ⟨?_, ?_⟩
  · rw [Nat.zero_add, h.cellAt j (by rw [hn]; exact hj'), flat_get enc k hk h0 l j hj', get_flatK enc k _ j hj]
    simp
  · rw [Nat.zero_add]; exact h.frozenAt j
theorem own_sorted {w : World} {base e g cap n : Nat} {xs : List Value} (hk : ∀ x, (enc x).length = k) (h0 : 0 < k) {l : List α} (hx : xs = l.flatMap enc)
    (h : w.ownsRow base e k (.slice (some ⟨g, 0, none⟩) n cap) n xs) (m : Nat) (d : Array α) (os : Array Obj) (hd : d.size = l.length) :
    (sortWorldK enc k w g 0 m d os).ownsRow base e k (.slice (some ⟨g, 0, none⟩) n cap) n (d.toList.flatMap enc) ∧ w.grownBy (sortWorldK enc k w g 0 m d os) (some g) := by
  subst hx
  have hn : n * k = l.length * k := by have := h.1; rw [flat_len enc k hk] at this; exact this.symm
  rcases h.2 with ⟨hv, _⟩ | ⟨g', cap', cur, hv, hb, hh, hc, hm, hs, ht⟩
  · cases hv
  · injection hv with e1 e2 e3
    injection e1 with e1
    injection e1 with e1
    subst e1 e3
    have hlt : g < w.heap.size := by
      rcases Nat.lt_or_ge g w.heap.size with hlt | hge
      · exact hlt
      · rw [Array.getElem?_eq_none hge] at hh; cases hh
    have hheap : (sortWorldK enc k w g 0 m d os).heap[g]? = some (.cells (putCells id 0 (flatK enc k d) cur) e (0, 0)) := by
      unfold sortWorldK
      rw [heap_grow_old _ _ (by unfold putRowK; simpa using hlt)]
      unfold putRowK putRow mapBlock
      simp only [Array.getElem?_modify, heap_ahead, if_true, hh]
      rfl
    refine ⟨⟨by rw [flat_len enc k hk, Array.length_toList, hd]; exact hn.symm, .inr ⟨g, cap, _, rfl, hb, hheap, hc, hm, by unfold putCells; simpa using hs, ?_⟩⟩, ?_⟩
    · have hsz : n * k ≤ cur.size := by rw [hs]; exact Nat.mul_le_mul_right k hc
      apply List.ext_getElem?
      intro t
      by_cases htk : t < n * k
      · rw [List.getElem?_take_of_lt htk]
        have ht2 : t < d.toList.length * k := by rw [Array.length_toList, hd]; omega
        rw [flat_get enc k hk h0 d.toList t ht2]
        unfold putCells
        have htc : t < cur.size := by omega
        have htd : t < d.size * k := by simpa using ht2
        simp only [Array.getElem?_toList, Array.getElem?_mapIdx]
        rw [Array.getElem?_eq_getElem htc]
        simp only [Option.map_some, Nat.zero_le, true_and, size_flatK, Nat.zero_add, if_pos htd, Nat.sub_zero, id]
        rw [get_flatK enc k d t htd, arr_get d (t / k)]
      · rw [List.getElem?_eq_none (by simp; omega), List.getElem?_eq_none (by rw [flat_len enc k hk, Array.length_toList, hd]; omega)]
    · refine ⟨rfl, rfl, rfl, by unfold sortWorldK putRowK; simp, fun i hi hne => ?_⟩
      unfold sortWorldK
      rw [heap_grow_old _ _ (by unfold putRowK; simpa using hi)]
      unfold putRowK putRow mapBlock
      have : g ≠ i := fun h => hne (by rw [h])
      simp [Array.getElem?_modify, this]
end
end Go.Proofs.YtlgbcogdogpihaaGreatDoor
