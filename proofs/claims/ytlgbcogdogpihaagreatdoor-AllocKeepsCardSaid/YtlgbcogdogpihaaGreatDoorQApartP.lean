/- Plain law of AllocApart: free, fresh and used pages are apart, and together all. -/
import Derived.Test.YtlgbcogdogpihaaGreatDoorQGe
namespace Rp
/-- the numbers of a list, one by one -/
def nums (l : List Run) : List Int := l.flatMap fun r => (List.range (r.2 - r.1 + 1).toNat).map fun i : Nat => r.1 + (i : Int)
theorem nums_cons (r : Run) (l : List Run) : nums (r :: l) = ((List.range (r.2 - r.1 + 1).toNat).map fun i : Nat => r.1 + (i : Int)) ++ nums l := by
  unfold nums; rw [List.flatMap_cons]
theorem mem_run {r : Run} {x : Int} : x ∈ ((List.range (r.2 - r.1 + 1).toNat).map fun i : Nat => r.1 + (i : Int)) ↔ r.1 ≤ x ∧ x ≤ r.2 := by
  rw [List.mem_map]
  constructor
  · rintro ⟨i, hi, rfl⟩
    rw [List.mem_range] at hi; omega
  · rintro ⟨h1, h2⟩
    exact ⟨(x - r.1).toNat, by rw [List.mem_range]; omega, by omega⟩
theorem mem_nums {l : List Run} {x : Int} : x ∈ nums l ↔ Mem l x := by
  induction l with
  | nil => simp [nums, mem_nil]
  | cons r l ih => rw [nums_cons, List.mem_append, mem_run, ih, mem_cons]
theorem range_nodup (a : Int) (n : Nat) : ((List.range n).map fun i : Nat => a + (i : Int)).Nodup := by
  unfold List.Nodup
  rw [List.pairwise_map]
  exact List.Pairwise.imp (fun h e => h (by omega)) (List.nodup_range (n := n))
theorem nums_nodup : ∀ (l : List Run) (lo : Int), Canon lo l → (nums l).Nodup
  | [], _, _ => by simp [nums]
  | r :: l, lo, h => by
    rw [nums_cons, List.nodup_append]
    refine ⟨range_nodup _ _, nums_nodup l _ h.2.2.2, fun a ha b hb e => ?_⟩
    subst e
    have h1 := mem_run.1 ha
    have h2 := h.2.2.2.ge (mem_nums.1 hb)
    omega
theorem nums_length : ∀ (l : List Run) (lo : Int), Canon lo l → ((nums l).length : Int) = size l
  | [], _, _ => by simp [nums, size]
  | r :: l, lo, h => by
    rw [nums_cons, List.length_append]
    have ih := nums_length l _ h.2.2.2
    have h1 := h.2.1
    unfold size at *
    simp only [List.length_map, List.length_range, List.map_cons, List.sum_cons]
    omega
theorem count_nums (l : List Run) : count l = ((nums (norm l)).length : Int) := (nums_length _ 0 (norm_ok l).1).symm
/-- the least one -/
def least (l : List Run) : Option Int := (nums (norm l)).head?
def ones (m : List Int) : List Run := m.map fun x => (x, x)
theorem mem_ones {m : List Int} {x : Int} : Mem (ones m) x ↔ x ∈ m := by
  unfold Mem ones
  constructor
  · rintro ⟨r, hr, h1, h2⟩
    obtain ⟨y, hy, rfl⟩ := List.mem_map.1 hr
    simp only at h1 h2
    obtain rfl : y = x := by omega
    exact hy
  · intro h
    exact ⟨(x, x), List.mem_map.2 ⟨x, h, rfl⟩, Int.le_refl _, Int.le_refl _⟩
theorem mem_two {p x : Int} : Mem [(2, p - 1)] x ↔ 2 ≤ x ∧ x < p := by
  rw [mem_cons]; simp only [mem_nil, or_false]; omega
structure Ap (room : Int) (fr used : List Run) (mine : List Int) (p : Int) : Prop where
  pg : 2 ≤ p ∧ p ≤ room ∧ room ≤ 100000
  cf : Canon 0 fr
  cu : Canon 0 used
  hf : ∀ x, Mem fr x → 2 ≤ x ∧ x < p
  hu : ∀ x, Mem used x → 2 ≤ x ∧ x < p
  hm : ∀ x, x ∈ mine → 2 ≤ x ∧ x < p
  all : ∀ x, 2 ≤ x → x < p → Mem fr x ∨ Mem used x ∨ x ∈ mine
  fu : ∀ x, Mem fr x → ¬ Mem used x
  fm : ∀ x, Mem fr x → x ∉ mine
  um : ∀ x, Mem used x → x ∉ mine
  nd : mine.Nodup
section
variable {room p : Int} {fr used : List Run} {mine : List Int}
theorem Ap.start (l : List Run) (h : 2 ≤ p ∧ p ≤ room ∧ room ≤ 100000) : Ap room (meet l [(2, p - 1)]) (minus [(2, p - 1)] l) [] p := by
  obtain ⟨c1, m1⟩ := meet_ok l [(2, p - 1)]
  obtain ⟨c2, m2⟩ := minus_ok [(2, p - 1)] l
  refine ⟨h, c1, c2, fun x hx => mem_two.1 ((m1 x).1 hx).2.2.2, fun x hx => mem_two.1 ((m2 x).1 hx).2.2.1, fun x hx => absurd hx List.not_mem_nil, fun x h1 h2 => ?_, fun x hx hy => ((m2 x).1 hy).2.2.2 ((m1 x).1 hx).2.2.1, fun x _ hx => absurd hx List.not_mem_nil, fun x _ hx => absurd hx List.not_mem_nil, List.nodup_nil⟩
  have h3 : 0 ≤ x ∧ x ≤ Most := by unfold Most; omega
  by_cases hl : Mem l x
  · exact .inl ((m1 x).2 ⟨h3.1, h3.2, hl, mem_two.2 ⟨h1, h2⟩⟩)
  · exact .inr (.inl ((m2 x).2 ⟨h3.1, h3.2, mem_two.2 ⟨h1, h2⟩, hl⟩))
theorem has_used {used : List Run} {x : Int} (hx : ¬ Mem used x) : has used x = false := by
  cases hh : has used x with
  | false => rfl
  | true => exact absurd ((has_iff _ _).1 hh).2.2 hx
theorem least_mem {l : List Run} (hc : Canon 0 l) {id : Int} (h : least l = some id) : Mem l id := by
  unfold least at h
  rw [norm_canon hc] at h
  exact mem_nums.1 (List.mem_of_head? h)
theorem least_none {l : List Run} (hc : Canon 0 l) (h : least l = none) (x : Int) : ¬ Mem l x := by
  unfold least at h
  rw [norm_canon hc, List.head?_eq_none_iff] at h
  intro hm
  have := mem_nums.2 hm
  rw [h] at this; cases this
theorem Ap.free (h : Ap room fr used mine p) {id : Int} (hid : least fr = some id) :
    id ∉ mine ∧ has used id = false ∧ 2 ≤ id ∧ id < p ∧ Ap room (minus fr [(id, id)]) used (mine ++ [id]) p := by
  have hm := least_mem h.cf hid
  have hr := h.hf id hm
  obtain ⟨c, m⟩ := minus_ok fr [(id, id)]
  refine ⟨h.fm id hm, has_used (h.fu id hm), hr.1, hr.2, h.pg, c, h.cu, fun x hx => h.hf x ((m x).1 hx).2.2.1, h.hu, fun x hx => ?_, fun x h1 h2 => ?_, fun x hx => h.fu x ((m x).1 hx).2.2.1, fun x hx hx2 => ?_, fun x hx hx2 => ?_, ?_⟩
  · rcases List.mem_append.1 hx with hx | hx
    · exact h.hm x hx
    · simp at hx; subst hx; exact hr
  · have h3 := h.pg
    rcases h.all x h1 h2 with h4 | h4 | h4
    · by_cases e : x = id
      · subst e; exact .inr (.inr (by simp))
      · exact .inl ((m x).2 ⟨by omega, by unfold Most; omega, h4, fun h5 => e ((mem_one id x).1 h5)⟩)
    · exact .inr (.inl h4)
    · exact .inr (.inr (List.mem_append_left _ h4))
  · obtain ⟨_, _, h4, h5⟩ := (m x).1 hx
    rcases List.mem_append.1 hx2 with h6 | h6
    · exact h.fm x h4 h6
    · simp at h6; exact h5 ((mem_one id x).2 h6)
  · rcases List.mem_append.1 hx2 with h6 | h6
    · exact h.um x hx h6
    · simp at h6; subst h6; exact h.fu x hm hx
  · rw [List.nodup_append]
    exact ⟨h.nd, by simp, fun a ha b hb e => by simp at hb; subst hb; subst e; exact h.fm _ hm ha⟩
theorem Ap.fresh (h : Ap room fr used mine p) (hp : p < room) :
    p ∉ mine ∧ has used p = false ∧ Ap room fr used (mine ++ [p]) (p + 1) := by
  have hpm : p ∉ mine := fun hx => by have := h.hm p hx; omega
  have hpu : ¬ Mem used p := fun hx => by have := h.hu p hx; omega
  have hpf : ¬ Mem fr p := fun hx => by have := h.hf p hx; omega
  have h0 := h.pg
  refine ⟨hpm, has_used hpu, by omega, h.cf, h.cu, fun x hx => by have := h.hf x hx; omega, fun x hx => by have := h.hu x hx; omega, fun x hx => ?_, fun x h1 h2 => ?_, h.fu, fun x hx hx2 => ?_, fun x hx hx2 => ?_, ?_⟩
  · rcases List.mem_append.1 hx with hx | hx
    · have := h.hm x hx; omega
    · simp at hx; omega
  · by_cases e : x = p
    · subst e; exact .inr (.inr (by simp))
    · rcases h.all x h1 (by omega) with h4 | h4 | h4
      · exact .inl h4
      · exact .inr (.inl h4)
      · exact .inr (.inr (List.mem_append_left _ h4))
  · rcases List.mem_append.1 hx2 with h6 | h6
    · exact h.fm x hx h6
    · simp at h6; subst h6; exact hpf hx
  · rcases List.mem_append.1 hx2 with h6 | h6
    · exact h.um x hx h6
    · simp at h6; subst h6; exact hpu hx
  · rw [List.nodup_append]
    exact ⟨h.nd, by simp, fun a ha b hb e => by simp at hb; subst hb; subst e; exact hpm ha⟩
theorem full_count {fr : List Run} (hn : least fr = none) : count fr = 0 := by
  rw [count_nums]
  unfold least at hn
  rw [List.head?_eq_none_iff] at hn
  rw [hn]; rfl
theorem Ap.dropped (h : Ap room fr used mine p) {id : Int} (hid : id ∈ mine) : Ap room (union fr [(id, id)]) used (mine.filter fun x => x != id) p := by
  obtain ⟨c, m⟩ := union_ok fr [(id, id)]
  have hr := h.hm id hid
  have h0 := h.pg
  have hx2 : ∀ x, x ∈ (mine.filter fun x => x != id) ↔ x ∈ mine ∧ x ≠ id := fun x => by rw [List.mem_filter]; simp
  refine ⟨h.pg, c, h.cu, fun x hx => ?_, h.hu, fun x hx => h.hm x ((hx2 x).1 hx).1, fun x h1 h2 => ?_, fun x hx hu => ?_, fun x hx hm => ?_, fun x hx hm => h.um x hx ((hx2 x).1 hm).1, h.nd.sublist List.filter_sublist⟩
  · rcases ((m x).1 hx).1 with h4 | h4
    · exact h.hf x h4
    · rw [(mem_one id x).1 h4]; exact hr
  · have hb : 0 ≤ x ∧ x ≤ Most := by unfold Most; omega
    rcases h.all x h1 h2 with h4 | h4 | h4
    · exact .inl ((m x).2 ⟨.inl h4, hb⟩)
    · exact .inr (.inl h4)
    · by_cases e : x = id
      · exact .inl ((m x).2 ⟨.inr ((mem_one id x).2 e), hb⟩)
      · exact .inr (.inr ((hx2 x).2 ⟨h4, e⟩))
  · rcases ((m x).1 hx).1 with h4 | h4
    · exact h.fu x h4 hu
    · rw [(mem_one id x).1 h4] at hu; exact h.um id hu hid
  · obtain ⟨h5, h6⟩ := (hx2 x).1 hm
    rcases ((m x).1 hx).1 with h4 | h4
    · exact h.fm x h4 h5
    · exact h6 ((mem_one id x).1 h4)
theorem filter_out {l : List Int} {id : Int} (h : id ∉ l) : (l.filter fun x => x != id) = l := by
  rw [List.filter_eq_self]
  intro a ha
  simp only [bne_iff_ne, ne_eq]
  rintro rfl
  exact h ha
theorem Ap.mem_now (h : Ap room fr used mine p) (x : Int) : (Mem fr x ∨ Mem (ones mine) x ∨ Mem used x) ↔ 2 ≤ x ∧ x < p := by
  rw [mem_ones]
  constructor
  · rintro (h1 | h1 | h1)
    · exact h.hf x h1
    · exact h.hm x h1
    · exact h.hu x h1
  · rintro ⟨h1, h2⟩
    rcases h.all x h1 h2 with h3 | h3 | h3
    · exact .inl h3
    · exact .inr (.inr h3)
    · exact .inr (.inl h3)
theorem Ap.both (h : Ap room fr used mine p) : union fr (union (ones mine) used) = norm [(2, p - 1)] := by
  obtain ⟨c1, m1⟩ := union_ok fr (union (ones mine) used)
  obtain ⟨c2, m2⟩ := norm_ok [(2, p - 1)]
  refine canon_unique _ _ _ _ c1 c2 fun x => ?_
  have h0 := h.pg
  rw [m1, m2, (union_ok (ones mine) used).2, mem_two]
  have hn := h.mem_now x
  constructor
  · rintro ⟨h1, h2⟩
    refine ⟨hn.1 ?_, h2⟩
    rcases h1 with h1 | ⟨h1 | h1, _⟩
    · exact .inl h1
    · exact .inr (.inl h1)
    · exact .inr (.inr h1)
  · rintro ⟨h1, h2⟩
    refine ⟨?_, h2⟩
    rcases hn.2 h1 with h3 | h3 | h3
    · exact .inl h3
    · exact .inr ⟨.inl h3, h2⟩
    · exact .inr ⟨.inr h3, h2⟩
theorem Ap.sum (h : Ap room fr used mine p) : count fr + count (ones mine) + count used = count [(2, p - 1)] := by
  obtain ⟨c3, m3⟩ := norm_ok (ones mine)
  obtain ⟨c2, m2⟩ := norm_ok [(2, p - 1)]
  have h0 := h.pg
  have e : ∀ x, x ∈ nums (norm (ones mine)) ↔ x ∈ mine := fun x => by
    rw [mem_nums, m3, mem_ones]
    exact ⟨fun h => h.1, fun hx => ⟨hx, by have := h.hm x hx; unfold Most; omega⟩⟩
  have hp : (nums (norm fr) ++ (nums (norm (ones mine)) ++ nums (norm used))).Perm (nums (norm [(2, p - 1)])) := by
    rw [norm_canon h.cf, norm_canon h.cu]
    refine (List.perm_ext_iff_of_nodup ?_ (nums_nodup _ 0 c2)).2 fun x => ?_
    · rw [List.nodup_append, List.nodup_append]
      refine ⟨nums_nodup _ 0 h.cf, ⟨nums_nodup _ 0 c3, nums_nodup _ 0 h.cu, ?_⟩, ?_⟩
      · rintro a ha b hb rfl
        exact h.um a (mem_nums.1 hb) ((e a).1 ha)
      · rintro a ha b hb rfl
        rcases List.mem_append.1 hb with hb | hb
        · exact h.fm a (mem_nums.1 ha) ((e a).1 hb)
        · exact h.fu a (mem_nums.1 ha) (mem_nums.1 hb)
    · rw [List.mem_append, List.mem_append, e, mem_nums, mem_nums, mem_nums, m2, mem_two, ← mem_ones, h.mem_now]
      exact ⟨fun h1 => ⟨h1, by unfold Most; omega⟩, fun h1 => h1.1⟩
  have hl := hp.length_eq
  rw [List.length_append, List.length_append] at hl
  rw [count_nums, count_nums, count_nums, count_nums]
  omega
end
end Rp
