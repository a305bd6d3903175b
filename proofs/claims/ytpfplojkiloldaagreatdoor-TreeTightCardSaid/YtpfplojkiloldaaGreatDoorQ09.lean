/- Plain law of AllocApart: free, fresh and used pages are apart, and together all. Plain: a change's pages as nodes; what a tree of keys does to them. Blocks that stay; nodes and parts whose rows are no older than a block. A range over an iterator that turns memory of its own: the law. What the round keeps (Kp), what the iterator may do between rounds (Ab), what it says of what it yields (G), how it ends (S, Sp): all speak of worlds. A region that draws its order, inside a round: by an invariant over what has been done. -/
import Derived.Test.YtpfplojkiloldaaGreatDoorQ04
import Derived.Test.YtpfplojkiloldaaGreatDoorQ06
import Derived.Test.YtpfplojkiloldaaGreatDoorQ08
namespace Rp
/-- the numbers of a list, one by one -/
def nums (l : List Run) : List Int := l.flatMap fun r => (List.range (r.2 - r.1 + 1).toNat).map fun i : Nat => r.1 + (i : Int)
theorem nums_cons (r : Run) (l : List Run) : nums (r :: l) = ((List.range (r.2 - r.1 + 1).toNat).map fun i : Nat => r.1 + (i : Int)) ++ nums l := by
  unfold nums; rw [List.flatMap_cons]
theorem mem_run {r : Run} {x : Int} : x ∈ ((List.range (r.2 - r.1 + 1).toNat).map fun i : Nat => r.1 + (i : Int)) ↔ r.1 ≤ x ∧ x ≤ r.2 := by
  rw [List.mem_map]
  constructor
  · rintro ⟨i, hi, rfl⟩
    rw [List.mem_range] at hi; omega
  · rintro ⟨h1, h2⟩
    exact ⟨(x - r.1).toNat, by rw [List.mem_range]; omega, by omega⟩
theorem mem_nums {l : List Run} {x : Int} : x ∈ nums l ↔ Mem l x := by
  induction l with
  | nil => simp [nums, mem_nil]
  | cons r l ih => rw [nums_cons, List.mem_append, mem_run, ih, mem_cons]
theorem range_nodup (a : Int) (n : Nat) : ((List.range n).map fun i : Nat => a + (i : Int)).Nodup := by
  unfold List.Nodup
  rw [List.pairwise_map]
  exact List.Pairwise.imp (fun h e => h (by omega)) (List.nodup_range (n := n))
theorem nums_nodup : ∀ (l : List Run) (lo : Int), Canon lo l → (nums l).Nodup
  | [], _, _ => by simp [nums]
  | r :: l, lo, h => by
    rw [nums_cons, List.nodup_append]
    refine ⟨range_nodup _ _, nums_nodup l _ h.2.2.2, fun a ha b hb e => ?_⟩
    subst e
    have h1 := mem_run.1 ha
    have h2 := h.2.2.2.ge (mem_nums.1 hb)
    omega
theorem nums_length : ∀ (l : List Run) (lo : Int), Canon lo l → ((nums l).length : Int) = size l
  | [], _, _ => by simp [nums, size]
  | r :: l, lo, h => by
    rw [nums_cons, List.length_append]
    have ih := nums_length l _ h.2.2.2
    have h1 := h.2.1
    unfold size at *
    simp only [List.length_map, List.length_range, List.map_cons, List.sum_cons]
    omega
theorem count_nums (l : List Run) : count l = ((nums (norm l)).length : Int) := (nums_length _ 0 (norm_ok l).1).symm
/-- the least one -/
def least (l : List Run) : Option Int := (nums (norm l)).head?
def ones (m : List Int) : List Run := m.map fun x => (x, x)
theorem mem_ones {m : List Int} {x : Int} : Mem (ones m) x ↔ x ∈ m := by
  unfold Mem ones
  constructor
  · rintro ⟨r, hr, h1, h2⟩
    obtain ⟨y, hy, rfl⟩ := List.mem_map.1 hr
    simp only at h1 h2
    obtain rfl : y = x := by omega
    exact hy
  · intro h
    exact ⟨(x, x), List.mem_map.2 ⟨x, h, rfl⟩, Int.le_refl _, Int.le_refl _⟩
theorem mem_two {p x : Int} : Mem [(2, p - 1)] x ↔ 2 ≤ x ∧ x < p := by
  rw [mem_cons]; simp only [mem_nil, or_false]; omega
structure Ap (room : Int) (fr used : List Run) (mine : List Int) (p : Int) : Prop where
  pg : 2 ≤ p ∧ p ≤ room ∧ room ≤ 100000
  cf : Canon 0 fr
  cu : Canon 0 used
  hf : ∀ x, Mem fr x → 2 ≤ x ∧ x < p
  hu : ∀ x, Mem used x → 2 ≤ x ∧ x < p
  hm : ∀ x, x ∈ mine → 2 ≤ x ∧ x < p
  all : ∀ x, 2 ≤ x → x < p → Mem fr x ∨ Mem used x ∨ x ∈ mine
  fu : ∀ x, Mem fr x → ¬ Mem used x
  fm : ∀ x, Mem fr x → x ∉ mine
  um : ∀ x, Mem used x → x ∉ mine
  nd : mine.Nodup
section
variable {room p : Int} {fr used : List Run} {mine : List Int}
theorem Ap.start (l : List Run) (h : 2 ≤ p ∧ p ≤ room ∧ room ≤ 100000) : Ap room (meet l [(2, p - 1)]) (minus [(2, p - 1)] l) [] p := by
  obtain ⟨c1, m1⟩ := meet_ok l [(2, p - 1)]
  obtain ⟨c2, m2⟩ := minus_ok [(2, p - 1)] l
  refine ⟨h, c1, c2, fun x hx => mem_two.1 ((m1 x).1 hx).2.2.2, fun x hx => mem_two.1 ((m2 x).1 hx).2.2.1, fun x hx => absurd hx List.not_mem_nil, fun x h1 h2 => ?_, fun x hx hy => ((m2 x).1 hy).2.2.2 ((m1 x).1 hx).2.2.1, fun x _ hx => absurd hx List.not_mem_nil, fun x _ hx => absurd hx List.not_mem_nil, List.nodup_nil⟩
  have h3 : 0 ≤ x ∧ x ≤ Most := by unfold Most; omega
  by_cases hl : Mem l x
  · exact .inl ((m1 x).2 ⟨h3.1, h3.2, hl, mem_two.2 ⟨h1, h2⟩⟩)
  · exact .inr (.inl ((m2 x).2 ⟨h3.1, h3.2, mem_two.2 ⟨h1, h2⟩, hl⟩))
theorem has_used {used : List Run} {x : Int} (hx : ¬ Mem used x) : has used x = false := by
  cases hh : has used x with
  | false => rfl
  | true => exact absurd ((has_iff _ _).1 hh).2.2 hx
theorem least_mem {l : List Run} (hc : Canon 0 l) {id : Int} (h : least l = some id) : Mem l id := by
  unfold least at h
  rw [norm_canon hc] at h
  exact mem_nums.1 (List.mem_of_head? h)
theorem least_none {l : List Run} (hc : Canon 0 l) (h : least l = none) (x : Int) : ¬ Mem l x := by
  unfold least at h
  rw [norm_canon hc, List.head?_eq_none_iff] at h
  intro hm
  have := mem_nums.2 hm
  rw [h] at this; cases this
theorem Ap.free (h : Ap room fr used mine p) {id : Int} (hid : least fr = some id) :
    id ∉ mine ∧ has used id = false ∧ 2 ≤ id ∧ id < p ∧ Ap room (minus fr [(id, id)]) used (mine ++ [id]) p := by
  have hm := least_mem h.cf hid
  have hr := h.hf id hm
  obtain ⟨c, m⟩ := minus_ok fr [(id, id)]
  refine ⟨h.fm id hm, has_used (h.fu id hm), hr.1, hr.2, h.pg, c, h.cu, fun x hx => h.hf x ((m x).1 hx).2.2.1, h.hu, fun x hx => ?_, fun x h1 h2 => ?_, fun x hx => h.fu x ((m x).1 hx).2.2.1, fun x hx hx2 => ?_, fun x hx hx2 => ?_, ?_⟩
  · rcases List.mem_append.1 hx with hx | hx
    · exact h.hm x hx
    · simp at hx; subst hx; exact hr
  · have h3 := h.pg
    rcases h.all x h1 h2 with h4 | h4 | h4
    · by_cases e : x = id
      · subst e; exact .inr (.inr (by simp))
      · exact .inl ((m x).2 ⟨by omega, by unfold Most; omega, h4, fun h5 => e ((mem_one id x).1 h5)⟩)
    · exact .inr (.inl h4)
    · exact .inr (.inr (List.mem_append_left _ h4))
  · obtain ⟨_, _, h4, h5⟩ := (m x).1 hx
    rcases List.mem_append.1 hx2 with h6 | h6
    · exact h.fm x h4 h6
    · simp at h6; exact h5 ((mem_one id x).2 h6)
  · rcases List.mem_append.1 hx2 with h6 | h6
    · exact h.um x hx h6
    · simp at h6; subst h6; exact h.fu x hm hx
  · rw [List.nodup_append]
    exact ⟨h.nd, by simp, fun a ha b hb e => by simp at hb; subst hb; subst e; exact h.fm _ hm ha⟩
theorem Ap.fresh (h : Ap room fr used mine p) (hp : p < room) :
    p ∉ mine ∧ has used p = false ∧ Ap room fr used (mine ++ [p]) (p + 1) := by
  have hpm : p ∉ mine := fun hx => by have := h.hm p hx; omega
  have hpu : ¬ Mem used p := fun hx => by have := h.hu p hx; omega
  have hpf : ¬ Mem fr p := fun hx => by have := h.hf p hx; omega
  have h0 := h.pg
  refine ⟨hpm, has_used hpu, by omega, h.cf, h.cu, fun x hx => by have := h.hf x hx; omega, fun x hx => by have := h.hu x hx; omega, fun x hx => ?_, fun x h1 h2 => ?_, h.fu, fun x hx hx2 => ?_, fun x hx hx2 => ?_, ?_⟩
  · rcases List.mem_append.1 hx with hx | hx
    · have := h.hm x hx; omega
    · simp at hx; omega
  · by_cases e : x = p
    · subst e; exact .inr (.inr (by simp))
    · rcases h.all x h1 (by omega) with h4 | h4 | h4
      · exact .inl h4
      · exact .inr (.inl h4)
      · exact .inr (.inr (List.mem_append_left _ h4))
  · rcases List.mem_append.1 hx2 with h6 | h6
    · exact h.fm x hx h6
    · simp at h6; subst h6; exact hpf hx
  · rcases List.mem_append.1 hx2 with h6 | h6
    · exact h.um x hx h6
    · simp at h6; subst h6; exact hpu hx
  · rw [List.nodup_append]
    exact ⟨h.nd, by simp, fun a ha b hb e => by simp at hb; subst hb; subst e; exact hpm ha⟩
theorem full_count {fr : List Run} (hn : least fr = none) : count fr = 0 := by
  rw [count_nums]
  unfold least at hn
  rw [List.head?_eq_none_iff] at hn
  rw [hn]; rfl
theorem Ap.dropped (h : Ap room fr used mine p) {id : Int} (hid : id ∈ mine) : Ap room (union fr [(id, id)]) used (mine.filter fun x => x != id) p := by
  obtain ⟨c, m⟩ := union_ok fr [(id, id)]
  have hr := h.hm id hid
  have h0 := h.pg
  have hx2 : ∀ x, x ∈ (mine.filter fun x => x != id) ↔ x ∈ mine ∧ x ≠ id := fun x => by rw [List.mem_filter]; simp
  refine ⟨h.pg, c, h.cu, fun x hx => ?_, h.hu, fun x hx => h.hm x ((hx2 x).1 hx).1, fun x h1 h2 => ?_, fun x hx hu => ?_, fun x hx hm => ?_, fun x hx hm => h.um x hx ((hx2 x).1 hm).1, h.nd.sublist List.filter_sublist⟩
  · rcases ((m x).1 hx).1 with h4 | h4
    · exact h.hf x h4
    · rw [(mem_one id x).1 h4]; exact hr
  · have hb : 0 ≤ x ∧ x ≤ Most := by unfold Most; omega
    rcases h.all x h1 h2 with h4 | h4 | h4
    · exact .inl ((m x).2 ⟨.inl h4, hb⟩)
    · exact .inr (.inl h4)
    · by_cases e : x = id
      · exact .inl ((m x).2 ⟨.inr ((mem_one id x).2 e), hb⟩)
      · exact .inr (.inr ((hx2 x).2 ⟨h4, e⟩))
  · rcases ((m x).1 hx).1 with h4 | h4
    · exact h.fu x h4 hu
    · rw [(mem_one id x).1 h4] at hu; exact h.um id hu hid
  · obtain ⟨h5, h6⟩ := (hx2 x).1 hm
    rcases ((m x).1 hx).1 with h4 | h4
    · exact h.fm x h4 h5
    · exact h6 ((mem_one id x).1 h4)
theorem filter_out {l : List Int} {id : Int} (h : id ∉ l) : (l.filter fun x => x != id) = l := by
  rw [List.filter_eq_self]
  intro a ha
  simp only [bne_iff_ne, ne_eq]
  rintro rfl
  exact h ha
theorem Ap.mem_now (h : Ap room fr used mine p) (x : Int) : (Mem fr x ∨ Mem (ones mine) x ∨ Mem used x) ↔ 2 ≤ x ∧ x < p := by
  rw [mem_ones]
  constructor
  · rintro (h1 | h1 | h1)
    · exact h.hf x h1
    · exact h.hm x h1
    · exact h.hu x h1
  · rintro ⟨h1, h2⟩
    rcases h.all x h1 h2 with h3 | h3 | h3
    · exact .inl h3
    · exact .inr (.inr h3)
    · exact .inr (.inl h3)
theorem Ap.both (h : Ap room fr used mine p) : union fr (union (ones mine) used) = norm [(2, p - 1)] := by
  obtain ⟨c1, m1⟩ := union_ok fr (union (ones mine) used)
  obtain ⟨c2, m2⟩ := norm_ok [(2, p - 1)]
  refine canon_unique _ _ _ _ c1 c2 fun x => ?_
  have h0 := h.pg
  rw [m1, m2, (union_ok (ones mine) used).2, mem_two]
  have hn := h.mem_now x
  constructor
  · rintro ⟨h1, h2⟩
    refine ⟨hn.1 ?_, h2⟩
    rcases h1 with h1 | ⟨h1 | h1, _⟩
    · exact .inl h1
    · exact .inr (.inl h1)
    · exact .inr (.inr h1)
  · rintro ⟨h1, h2⟩
    refine ⟨?_, h2⟩
    rcases hn.2 h1 with h3 | h3 | h3
    · exact .inl h3
    · exact .inr ⟨.inl h3, h2⟩
    · exact .inr ⟨.inr h3, h2⟩
theorem Ap.sum (h : Ap room fr used mine p) : count fr + count (ones mine) + count used = count [(2, p - 1)] := by
  obtain ⟨c3, m3⟩ := norm_ok (ones mine)
  obtain ⟨c2, m2⟩ := norm_ok [(2, p - 1)]
  have h0 := h.pg
  have e : ∀ x, x ∈ nums (norm (ones mine)) ↔ x ∈ mine := fun x => by
    rw [mem_nums, m3, mem_ones]
    exact ⟨fun h => h.1, fun hx => ⟨hx, by have := h.hm x hx; unfold Most; omega⟩⟩
  have hp : (nums (norm fr) ++ (nums (norm (ones mine)) ++ nums (norm used))).Perm (nums (norm [(2, p - 1)])) := by
    rw [norm_canon h.cf, norm_canon h.cu]
    refine (List.perm_ext_iff_of_nodup ?_ (nums_nodup _ 0 c2)).2 fun x => ?_
    · rw [List.nodup_append, List.nodup_append]
      refine ⟨nums_nodup _ 0 h.cf, ⟨nums_nodup _ 0 c3, nums_nodup _ 0 h.cu, ?_⟩, ?_⟩
      · rintro a ha b hb rfl
        exact h.um a (mem_nums.1 hb) ((e a).1 ha)
      · rintro a ha b hb rfl
        rcases List.mem_append.1 hb with hb | hb
        · exact h.fm a (mem_nums.1 ha) ((e a).1 hb)
        · exact h.fu a (mem_nums.1 ha) (mem_nums.1 hb)
    · rw [List.mem_append, List.mem_append, e, mem_nums, mem_nums, mem_nums, m2, mem_two, ← mem_ones, h.mem_now]
      exact ⟨fun h1 => ⟨h1, by unfold Most; omega⟩, fun h1 => h1.1⟩
  have hl := hp.length_eq
  rw [List.length_append, List.length_append] at hl
  rw [count_nums, count_nums, count_nums, count_nums]
  omega
end
end Rp
namespace Tp
open Nd
abbrev Run := Rp.Run
/-- a change in memory: what is free, its pages, the fresh ones and their nodes -/
structure Pst where
  free : List Run
  pages : Int
  mine : List Int
  nd : Int → Option Node
def Pst.put (σ : Pst) (id : Int) (n : Node) : Pst := { σ with nd := fun j => if j = id then some n else σ.nd j }
/-- what a page reads as; disk: the nodes of pages that are not fresh -/
def Pst.view (disk : Int → Option Node) (σ : Pst) (id : Int) : Option Node :=
  if id ∈ σ.mine then σ.nd id else if 2 ≤ id ∧ id < σ.pages ∧ Rp.has σ.free id = false then disk id else none
def allocV (free : List Run) (pages room : Int) : Option (Int × List Run × Int) :=
  match Rp.least free with
  | some id => some (id, Rp.minus free [(id, id)], pages)
  | none => if room ≤ pages then none else some (pages, free, pages + 1)
def pAlloc (room : Int) (σ : Pst) : Option (Int × Pst) := match allocV σ.free σ.pages room with
  | none => none
  | some (id, fr, p) => some (id, ⟨fr, p, σ.mine ++ [id], fun j => if j = id then none else σ.nd j⟩)
def pDrop (σ : Pst) (id : Int) : Pst := { σ with free := if id ∈ σ.mine then Rp.union σ.free [(id, id)] else σ.free, mine := σ.mine.filter fun x => x != id }
def pSave (room : Int) (σ : Pst) (id : Int) (n : Node) : Except Int Int × Pst :=
  if fits n = false then (.error 3, σ)
  else if id ∈ σ.mine then (.ok id, σ.put id n)
  else match pAlloc room σ with
    | none => (.error 2, σ)
    | some (id', σ') => (.ok id', σ'.put id' n)
abbrev Part := List Int × List En.Str
def cut (n : Node) : Option (Node × En.Str × Node) := if 240 < size n then split n else none
def pStore (room : Int) : Nat → Pst → Int → Node → Except Int Part × Pst
  | 0, σ, _, _ => (.error 3, σ)
  | f + 1, σ, id, n =>
    if n.ents.length + n.kids.length = 0 then (.ok ([], []), pDrop σ id)
    else match cut n with
      | some (a, key, b) => match pStore room f σ id a with
        | (.error e, σ1) => (.error e, σ1)
        | (.ok one, σ1) => match pStore room f σ1 0 b with
          | (.error e, σ2) => (.error e, σ2)
          | (.ok two, σ2) => (.ok (one.1 ++ two.1, one.2 ++ [key] ++ two.2), σ2)
      | none => match pSave room σ id n with
        | (.error e, σ1) => (.error e, σ1)
        | (.ok p, σ1) => (.ok ([p], []), σ1)
/-- enough for a node -/
def fuelOf (n : Node) : Nat := n.ents.length + n.kids.length + 1
def sib (n : Node) (i : Nat) : Nat := if i + 1 = n.kids.length then i - 1 else i
def pFill (room : Int) (disk : Int → Option Node) (σ : Pst) (n : Node) (i d : Nat) : Except Int Node × Pst :=
  if 24 ≤ d then (.error 3, σ) else
  match σ.view disk (n.kids.getD i 0) with
  | none => (.error 3, σ)
  | some kid => if 80 ≤ size kid then (.ok n, σ) else
    match σ.view disk (n.kids.getD (sib n i) 0) with
    | none => (.error 3, σ)
    | some a => match σ.view disk (n.kids.getD (sib n i + 1) 0) with
      | none => (.error 3, σ)
      | some b => if (a.leaf != b.leaf) = true ∨ fits (join a (n.keys.getD (sib n i) ⟨#[]⟩) b) = false then (.ok n, σ)
        else match pSave room σ (n.kids.getD (sib n i) 0) (join a (n.keys.getD (sib n i) ⟨#[]⟩) b) with
          | (.error e, σ1) => (.error e, σ1)
          | (.ok page, σ1) => (.ok (swap n (sib n i) (sib n i + 2) [page] []), pDrop σ1 (n.kids.getD (sib n i + 1) 0))
def pFillIf (room : Int) (disk : Int → Option Node) (p : Part) (σ : Pst) (n : Node) (i d : Nat) : Except Int Node × Pst :=
  if p.1.length = 1 ∧ 1 < n.kids.length then pFill room disk σ n i d else (.ok n, σ)
/-- f: 24 less the depth -/
def pChange (room : Int) (disk : Int → Option Node) (g : List En.Ent → List En.Ent) (key : En.Str) : Nat → Pst → Int → Except Int Part × Pst
  | 0, σ, _ => (.error 3, σ)
  | f + 1, σ, id => match σ.view disk id with
    | none => (.error 3, σ)
    | some n => if n.leaf then pStore room (fuelOf (mkLeaf (g n.ents))) σ id (mkLeaf (g n.ents))
      else match pChange room disk g key f σ (n.kids.getD (child n.keys key) 0) with
        | (.error e, σ1) => (.error e, σ1)
        | (.ok p, σ1) => match pFillIf room disk p σ1 (swap n (child n.keys key) (child n.keys key + 1) p.1 p.2) (child n.keys key) (24 - f) with
          | (.error e, σ2) => (.error e, σ2)
          | (.ok n2, σ2) => pStore room (fuelOf n2) σ2 id n2
def pShrink (disk : Int → Option Node) : Nat → Pst → Int → Except Int Int × Pst
  | 0, σ, _ => (.error 3, σ)
  | f + 1, σ, id => match σ.view disk id with
    | none => (.error 3, σ)
    | some n => if n.leaf = true ∨ 1 < n.kids.length then (.ok id, σ) else pShrink disk f (pDrop σ id) (n.kids.getD 0 0)
def pGrow (room : Int) (disk : Int → Option Node) : Nat → Pst → Part → Except Int Int × Pst
  | 0, σ, _ => (.error 3, σ)
  | f + 1, σ, p =>
    if 1 < p.1.length then match pStore room (p.1.length + 1) σ 0 (mkInner p.1 p.2) with
      | (.error e, σ1) => (.error e, σ1)
      | (.ok q, σ1) => pGrow room disk f σ1 q
    else match p.1 with
      | [] => (.ok 0, σ)
      | id :: _ => pShrink disk 24 σ id
def pFirst (room : Int) (disk : Int → Option Node) (g : List En.Ent → List En.Ent) (key : En.Str) (σ : Pst) (root : Int) : Except Int Part × Pst :=
  if root = 0 then pStore room (fuelOf (mkLeaf (g []))) σ 0 (mkLeaf (g [])) else pChange room disk g key 24 σ root
def pUpdate (room : Int) (disk : Int → Option Node) (g : List En.Ent → List En.Ent) (key : En.Str) (σ : Pst) (root : Int) : Except Int Int × Pst :=
  match pFirst room disk g key σ root with
  | (.error e, σ1) => (.error e, σ1)
  | (.ok p, σ1) => pGrow room disk (p.1.length + 1) σ1 p
/-- a key's value -/
def pFind (disk : Int → Option Node) (σ : Pst) (key : En.Str) : Nat → Int → Except Int (Option En.Str)
  | 0, id => if id = 0 then .ok none else .error 3
  | f + 1, id => if id = 0 then .ok none else match σ.view disk id with
    | none => .error 3
    | some n => if n.leaf then .ok (En.get n.ents key) else pFind disk σ key f (n.kids.getD (child n.keys key) 0)
/-- kids one by one, till it is enough -/
def goKids {S : Type} (vis : Int → S → S × Except Int Bool) : List Int → S → S × Except Int Bool
  | [], s => (s, .ok true)
  | k :: r, s => match vis k s with
    | (s', .ok true) => goKids vis r s'
    | (s', x) => (s', x)
def place (l : List En.Ent) (key : En.Str) : Nat := (l.takeWhile fun x => En.lt x.1 key).length
def pVisit {S : Type} (disk : Int → Option Node) (σ : Pst) (frm : En.Str) (step : S → List En.Ent → S × Bool) : Nat → Int → S → S × Except Int Bool
  | 0, _, s => (s, .error 3)
  | f + 1, id, s => match σ.view disk id with
    | none => (s, .error 3)
    | some n => if n.leaf then ((step s (n.ents.drop (place n.ents frm))).1, .ok (step s (n.ents.drop (place n.ents frm))).2)
      else goKids (pVisit disk σ frm step f) (n.kids.drop (child n.keys frm)) s
/-- all pages, a parent ahead of its kids -/
def pWalkKids (wk : List (Int × Nat × Node) → Int → List (Int × Nat × Node) × Int) : List Int → List (Int × Nat × Node) → List (Int × Nat × Node) × Int
  | [], l => (l, 0)
  | k :: r, l => match wk l k with
    | (l', 0) => pWalkKids wk r l'
    | (l', e) => (l', e)
def pWalk (disk : Int → Option Node) (σ : Pst) : Nat → List (Int × Nat × Node) → Int → List (Int × Nat × Node) × Int
  | 0, l, _ => (l, 3)
  | f + 1, l, id => match σ.view disk id with
    | none => (l, 3)
    | some n => pWalkKids (pWalk disk σ f) n.kids (l ++ [(id, 24 - (f + 1), n)])
end Tp
namespace Go.Proofs.YtpfplojkiloldaaGreatDoor
open Go.RowKit Go.Shelf
/-- nothing but blocks of S has turned -/
structure Fr (S : Nat → Prop) (w w' : World) : Prop where
  os : w'.os = w.os
  tape : w'.tape = w.tape
  output : w'.output = w.output
  size : w.heap.size ≤ w'.heap.size
  block : ∀ k, k < w.heap.size → ¬ S k → w'.heap[k]? = w.heap[k]?
section
variable {S S' : Nat → Prop} {w w' w'' : World}
theorem Fr.refl (w : World) : Fr S w w := ⟨rfl, rfl, rfl, Nat.le_refl _, fun _ _ _ => rfl⟩
theorem Fr.of_below (h : Below w.heap.size w w') : Fr S w w' := ⟨h.os, h.tape, h.output, h.size, fun k hk _ => h.block k hk⟩
theorem Fr.trans (h : Fr S w w') (h' : Fr S w' w'') : Fr S w w'' :=
  ⟨h'.os.trans h.os, h'.tape.trans h.tape, h'.output.trans h.output, Nat.le_trans h.size h'.size, fun k hk a => (h'.block k (Nat.lt_of_lt_of_le hk h.size) a).trans (h.block k hk a)⟩
theorem Fr.then_ (h : Fr S w w') (h' : Below w'.heap.size w' w'') : Fr S w w'' := h.trans (.of_below h')
theorem Fr.after {B : Nat} (h0 : Below B w w') (hB : w.heap.size ≤ B) (h : Fr S w' w'') : Fr S w w'' := (Fr.of_below (h0.mono hB)).trans h
theorem Fr.more (h : Fr S w w') (hS : ∀ k, S k → S' k) : Fr S' w w' := ⟨h.os, h.tape, h.output, h.size, fun k hk a => h.block k hk (fun b => a (hS k b))⟩
theorem Fr.blk (h : Fr S w w') {g : Nat} {ty : TypeId} {cs : Array Value} (hB : Blk w g ty cs) (hg : ¬ S g) : Blk w' g ty cs := (h.block g hB.lt hg).trans hB
theorem Fr.set_ {g i : Nat} (hg : S g) (v : Value) : Fr S w (w.setCell ⟨g, i, none⟩ v) := by
  have h := only_setCell (World.grownBy.refl w (some g)) (p := ⟨g, i, none⟩) (.inl rfl) v
  exact ⟨h.os, h.tape, h.output, h.size, fun k hk a => h.block k hk (fun e => by injection e with e; subst e; exact a hg)⟩
theorem Fr.low {B : Nat} (h : Fr S w w') (hB : B ≤ w.heap.size) (hS : ∀ k, S k → B ≤ k) : Below B w w' := ⟨h.os, h.tape, h.output, h.size, fun k hk => h.block k (by omega) (fun a => by have := hS k a; omega)⟩
theorem LO.fr {α : Type} {E : Enc α} {ty : TypeId} {base : Nat} {v : Value} {l : List α} (h : LO E ty w base v l) (hf : Fr S w w') (hS : ∀ k, S k → k < base) : LO E ty w' base v l := by
  obtain ⟨h1, h2⟩ := h
  refine ⟨h1, ?_⟩
  rcases h2 with h2 | ⟨g, cap, cur, e1, e2, e3, e4⟩
  · exact .inl h2
  · exact .inr ⟨g, cap, cur, e1, e2, (hf.block g (Array.getElem?_eq_some_iff.1 e3).1 (fun a => by have := hS g a; omega)).trans e3, e4⟩
theorem LO.fr' {α : Type} {E : Enc α} {ty : TypeId} {base : Nat} {v : Value} {l : List α} (h : LO E ty w base v l) (hf : Fr S w w') (hS : ∀ k, S k → k < base) : LO E ty w' base v l := h.fr hf hS
end
/-- a node whose rows are no older than a block -/
def NF (lo : Nat) (w : World) (v : Value) (n : Nd.Node) : Prop := ∃ Ae ce Ai ci Ay cy, v = nodeV n.leaf Ae n.ents.length ce Ai n.kids.length ci Ay n.keys.length cy ∧ LO entE 38 w lo (.slice Ae n.ents.length ce) n.ents ∧ LO intE 3 w lo (.slice Ai n.kids.length ci) n.kids ∧ LO keyE 9 w lo (.slice Ay n.keys.length cy) n.keys
section
variable {S : Nat → Prop} {w w' : World} {lo lo' : Nat} {v : Value} {n : Nd.Node}
theorem NF.ns (h : NF lo w v n) : NS w v n := by
  obtain ⟨Ae, ce, Ai, ci, Ay, cy, e, h1, h2, h3⟩ := h
  exact ⟨Ae, ce, Ai, ci, Ay, cy, e, h1.sv, h2.sv, h3.sv⟩
theorem NF.below (h : NF lo w v n) (hb : Below w.heap.size w w') : NF lo w' v n := by
  obtain ⟨Ae, ce, Ai, ci, Ay, cy, e, h1, h2, h3⟩ := h
  exact ⟨Ae, ce, Ai, ci, Ay, cy, e, h1.below hb, h2.below hb, h3.below hb⟩
theorem NF.lower (h : NF lo w v n) (hl : lo' ≤ lo) : NF lo' w v n := by
  obtain ⟨Ae, ce, Ai, ci, Ay, cy, e, h1, h2, h3⟩ := h
  exact ⟨Ae, ce, Ai, ci, Ay, cy, e, h1.lower hl, h2.lower hl, h3.lower hl⟩
theorem NF.fr (h : NF lo w v n) (hf : Fr S w w') (hS : ∀ k, S k → k < lo) : NF lo w' v n := by
  obtain ⟨Ae, ce, Ai, ci, Ay, cy, e, h1, h2, h3⟩ := h
  exact ⟨Ae, ce, Ai, ci, Ay, cy, e, h1.fr hf hS, h2.fr hf hS, h3.fr hf hS⟩
end
/-- a part: pages side by side, and keys -/
def prtV (Ai : Option Addr) (ni ci : Nat) (Ay : Option Addr) (ny cy : Nat) : Value := .agg #[.slice Ai ni ci, .slice Ay ny cy]
def PF (lo : Nat) (w : World) (v : Value) (p : Tp.Part) : Prop := ∃ Ai ci Ay cy, v = prtV Ai p.1.length ci Ay p.2.length cy ∧ LO intE 3 w lo (.slice Ai p.1.length ci) p.1 ∧ LO keyE 9 w lo (.slice Ay p.2.length cy) p.2
section
variable {S : Nat → Prop} {w w' : World} {lo lo' : Nat} {v : Value} {p : Tp.Part}
theorem PF.below (h : PF lo w v p) (hb : Below w.heap.size w w') : PF lo w' v p := by
  obtain ⟨Ai, ci, Ay, cy, e, h2, h3⟩ := h
  exact ⟨Ai, ci, Ay, cy, e, h2.below hb, h3.below hb⟩
theorem PF.lower (h : PF lo w v p) (hl : lo' ≤ lo) : PF lo' w v p := by
  obtain ⟨Ai, ci, Ay, cy, e, h2, h3⟩ := h
  exact ⟨Ai, ci, Ay, cy, e, h2.lower hl, h3.lower hl⟩
theorem PF.fr (h : PF lo w v p) (hf : Fr S w w') (hS : ∀ k, S k → k < lo) : PF lo w' v p := by
  obtain ⟨Ai, ci, Ay, cy, e, h2, h3⟩ := h
  exact ⟨Ai, ci, Ay, cy, e, h2.fr hf hS, h3.fr hf hS⟩
end
end Go.Proofs.YtpfplojkiloldaaGreatDoor
namespace Go.Proofs.YtpfplojkiloldaaGreatDoor
open Go.RowKit Go.Shelf
def SeqX {α : Type} (F : Fence) (n : Nat) (P : Program) (g : Nat) (lb : Array Value) (encs : α → Array Value) (Kp Ab : World → World → Prop) (G S Sp : List α → World → Prop) (N : Nat) (w : World) : Prop :=
  ∀ (l : Nat) (J Jx : List α → World → Prop) (W : World), Below w.heap.size w W → (∀ s A B, J s A → Ab A B → J s B) → (∀ s A B, Jx s A → Ab A B → Jx s B) →
    (∀ pre x W1, J pre W1 → pre.length < N → G (pre ++ [x]) W1 → YieldAt F (n - 1) P l (encs x) W1 fun e W' =>
      (e = .returned (.bool true) ∧ J (pre ++ [x]) W' ∧ Kp W1 W') ∨ (e = .returned (.bool false) ∧ Jx (pre ++ [x]) W' ∧ Kp W1 W')) →
    J [] W →
    CallsIn F n P g (#[.func (.yield l) #[] #[]] ++ lb) W fun e W' => (∃ v, e = .returned v) ∧ ((∃ xs, S xs W' ∧ J xs W') ∨ (∃ pre, Sp pre W' ∧ Jx pre W'))
def postX {α : Type} (B : Nat) (Kp : World → World → Prop) (I : List α → World → Prop) (Ix : Code → List α → World → Prop) (xs : List α) (W : World) : Exit → Act → World → Prop
  | .normal, _, W' => KeepsFrom B W W' ∧ Kp W W' ∧ I xs W'
  | .ret, _, W' => KeepsFrom B W W' ∧ Kp W W' ∧ Ix .ret xs W'
  | .exit id, _, W' => KeepsFrom B W W' ∧ Kp W W' ∧ Ix (.exit id) xs W'
  | .goto t, _, W' => KeepsFrom B W W' ∧ Kp W W' ∧ Ix (.goto t) xs W'
  | .panic _, _, _ => False
  | .outgrown, _, _ => False
/-- a turn of a block of book-keeping from B on -/
def PutOk {β : Type} (B : Nat) (S : β → World → Prop) : Prop := ∀ s W l o o', S s W → B ≤ l → W.heap[l]? = some o → o.isCells = false → o.isWalk = false → S s (W.putObj l o')
theorem OwnFrom.putOk {β : Type} {B : Nat} {S : β → World → Prop} (h : OwnFrom B S) : PutOk B S := fun _ _ _ _ o' hs hB hl ho _ => h.putObj o' hs hB hl ho
theorem wpIn_rangeFunc_X {F : Fence} {n : Nat} {P : Program} {w : World} {α : Type} {g : Operand} {ps : Array Tmp} {assign body : Code} {Q : Exit → Act → World → Prop} {a : Act}
    (hro : F.round = none) (h1 : 1 ≤ n) {gf : Nat} {lb : Array Value} (hg : a.eval g = .func (.func gf) #[] lb) (hFg : F.fn gf) (eg : ∀ args w, (callFunc gf args).run P w = .ok (.enter gf args) w)
    {encs : α → Array Value} {Kp Ab : World → World → Prop} {G S Sp : List α → World → Prop} {N : Nat} (hseq : SeqX F (n - 1) P gf lb encs Kp Ab G S Sp N w)
    (hKt : ∀ {A B C : World}, Kp A B → Kp B C → Kp A C) (hKb : ∀ (W : World) (l : Nat) (o o' : Obj), w.heap.size ≤ l → W.heap[l]? = some o → o.isCells = false → o.isWalk = false → Kp W (W.putObj l o'))
    (hAb : ∀ (A B : World) (k : Nat) (o : Obj), Ab A B → A.heap[k]? = some o → o.isCells = false → o.isWalk = false → B.heap[k]? = some o)
    (hps : ∀ x, (encs x).size = ps.size)
    (I : List α → World → Prop) (Ix : Code → List α → World → Prop) (hI : OwnFrom w.heap.size I) (hIx : ∀ c, OwnFrom w.heap.size (Ix c)) (hIA : ∀ s A B, I s A → Ab A B → I s B) (hIxA : ∀ c s A B, Ix c s A → Ab A B → Ix c s B)
    (hS : PutOk w.heap.size S) (hSp : PutOk w.heap.size Sp)
    (h0 : I [] w) (Ax : List α → Act → World → Prop) (hAx : ∀ a', OwnFrom w.heap.size (fun s W => Ax s a' W))
    (hassign : ∀ (l : Nat) (pre : List α) (x : α) (W : World) (K : Act → World → Prop), I pre W → G (pre ++ [x]) W → (∀ a' W', KeepsFrom w.heap.size W W' → Kp W W' → I pre W' → Ax (pre ++ [x]) a' W' → K a' W') →
      assign.wpIn (F.inRound l) (n - 1 - 1) P (Exit.then K (fun _ _ _ => False)) { tmps := (ps.zip (encs x)).foldl (fun t (p, v) => t.setIfInBounds p v) a.tmps, defers := [] } W)
    (hbody : ∀ (l : Nat) (pre : List α) (x : α) (a' : Act) (W : World), w.heap.size ≤ l → I pre W → Ax (pre ++ [x]) a' W → pre.length < N → body.wpIn (F.inRound l) (n - 1 - 1) P (postX w.heap.size Kp I Ix (pre ++ [x]) W) a' W)
    (hdone : ∀ (D : Nat) (xs : List α) (W : World), w.heap.size ≤ D → S xs W → I xs W → W.heap[D]? = some (.deferred (some [])) → Q .normal { a with defers := { target := .collected D, args := #[] } :: a.defers } W)
    (hstop : ∀ (D : Nat) (c : Code) (pre : List α) (W : World), w.heap.size ≤ D → Sp pre W → Ix c pre W → W.heap[D]? = some (.deferred (some [])) → c.wpIn F n P Q { a with defers := { target := .collected D, args := #[] } :: a.defers } W) :
    (Code.rangeFunc g ps assign body).wpIn F n P Q a w := by
  refine wpIn_rangeFunc ?_
  intro fn hfn
  rw [hro]
  obtain ⟨rec, hrec⟩ : ∃ rec : LoopState → Option Code → Loop, rec = fun st pe => { state := st, pending := pe, fn, tmps := a.tmps, params := ps, assign, body, defers := w.heap.size } := ⟨_, rfl⟩
  obtain ⟨W1, hW1⟩ : ∃ W1, (w.alloc (.deferred (some []))).alloc (.loop (rec .ready none)) = W1 := ⟨_, rfl⟩
  have hL1 : W1.heap[w.heap.size + 1]? = some (.loop (rec .ready none)) := by
    rw [← hW1]; have := World.alloc_heap_new (w.alloc (.deferred (some []))) (.loop (rec .ready none)); rwa [World.size_alloc] at this
  have hK1 : W1.heap[w.heap.size]? = some (.deferred (some [])) := by
    rw [← hW1]; exact (Below.heap_alloc _ _ _ (by simp)).trans (World.alloc_heap_new w _)
  have hI1 : I [] W1 := by rw [← hW1]; exact hI.alloc _ (hI.alloc _ h0)
  have hb1 : Below w.heap.size w W1 := by
    rw [← hW1]; exact ((Below.refl _ w).alloc (Nat.le_refl _) _).alloc (by simp) _
  refine ⟨w.heap.size + 1, [{ target := .collected w.heap.size, args := #[] }], W1, { target := .fn (.func gf) lb, args := #[.func (.yield (w.heap.size + 1)) #[] #[]] }, W1, gf,
    #[.func (.yield (w.heap.size + 1)) #[] #[]] ++ lb, W1, ?_, ?_, ?_, ?_, fun _ => h1, ?_⟩
  · rw [← hW1, hrec]; exact run_enterLoop_outer _ _ _ _ _
  · simp only [resolve, hg]
    simp [go_sem]
  · intro f' hf'; simp [Target.leads] at hf'; subst hf'; exact hFg
  · simp [invoke, go_sem, eg]
  · refine (hseq (w.heap.size + 1)
      (fun pre W => I pre W ∧ W.heap[w.heap.size + 1]? = some (.loop (rec .ready none)) ∧ W.heap[w.heap.size]? = some (.deferred (some [])))
      (fun pre W => ∃ c, Ix c pre W ∧ W.heap[w.heap.size + 1]? = some (.loop (rec .done (some c))) ∧ W.heap[w.heap.size]? = some (.deferred (some [])))
      W1 hb1
      (fun s A B hs hg' => ⟨hIA s A B hs.1 hg', hAb A B _ _ hg' hs.2.1 rfl rfl, hAb A B _ _ hg' hs.2.2 rfl rfl⟩)
      (fun s A B hs hg' => by
        obtain ⟨c, hc, hl, hk⟩ := hs
        exact ⟨c, hIxA c s A B hc hg', hAb A B _ _ hg' hl rfl rfl, hAb A B _ _ hg' hk rfl rfl⟩)
      ?_ ⟨hI1, hL1, hK1⟩).mono ?_
    · rintro pre x W ⟨hi, hl, hk⟩ hlen hG
      have hlt : w.heap.size + 1 < W.heap.size := (Array.getElem?_eq_some_iff.1 hl).1
      have hy := run_yield (P := P) (args := encs x) hl (by rw [hrec]; exact hps x)
      rw [hrec] at hy
      refine ⟨fn, _, assign, body, hy, roundIn_of_wpIn hfn (hassign _ pre x W _ hi hG ?_)⟩
      clear hy
      intro a' Wa hkfa hkpa hia hax
      replace hl := hkfa.same _ _ (by omega) hl rfl
      replace hk := hkfa.same _ _ (Nat.le_refl _) hk rfl
      replace hlt : w.heap.size + 1 < Wa.heap.size := (Array.getElem?_eq_some_iff.1 hl).1
      replace hi := hia
      clear hia hG
      revert hkpa hkfa
      generalize W = Wb
      intro hkfa hkpa
      obtain ⟨W, rfl⟩ : ∃ W, W = Wa := ⟨_, rfl⟩
      refine ⟨_, run_beginRound hl (by rw [hrec]), ?_⟩
      have hl2 : (W.putObj (w.heap.size + 1) (.loop { rec .ready none with state := .busy })).heap[w.heap.size + 1]? = some (.loop { rec .ready none with state := .busy }) := World.putObj_heap_same hlt
      have hk2 : (W.putObj (w.heap.size + 1) (.loop { rec .ready none with state := .busy })).heap[w.heap.size]? = some (.deferred (some [])) := (World.putObj_heap_other (by omega)).trans hk
      have hw2 : Kp W (W.putObj (w.heap.size + 1) (.loop { rec .ready none with state := .busy })) := hKb _ _ _ _ (by omega) hl rfl rfl
      refine wpIn_mono (hbody _ pre x a' _ (by omega) (hI.putObj _ hi (by omega) hl rfl) ((hAx a').putObj _ hax (by omega) hl rfl) hlen) ?_
      have fin : ∀ (jump : Option Code) (W3 : World), KeepsFrom w.heap.size (W.putObj (w.heap.size + 1) (.loop { rec .ready none with state := .busy })) W3 →
          (Instr.endRound (w.heap.size + 1) jump).run P W3 = .ok (.bool jump.isNone) (W3.putObj (w.heap.size + 1) (.loop (rec (if jump.isNone then .ready else .done) jump))) ∧
          W3.heap[w.heap.size + 1]? = some (.loop { rec .ready none with state := .busy }) ∧
          (W3.putObj (w.heap.size + 1) (.loop (rec (if jump.isNone then .ready else .done) jump))).heap[w.heap.size + 1]? = some (.loop (rec (if jump.isNone then .ready else .done) jump)) ∧
          (W3.putObj (w.heap.size + 1) (.loop (rec (if jump.isNone then .ready else .done) jump))).heap[w.heap.size]? = some (.deferred (some [])) := fun jump W3 hk3 => by
        have hl3 := hk3.same _ _ (by omega) hl2 rfl
        have := run_endRound (P := P) jump hl3
        rw [hrec] at this ⊢
        exact ⟨this, by rw [hrec] at hl3; exact hl3, World.putObj_heap_same (Array.getElem?_eq_some_iff.1 hl3).1, (World.putObj_heap_other (by omega)).trans (hk3.same _ _ (Nat.le_refl _) hk2 rfl)⟩
      rintro e a3 W3 hp
      cases e with
      | normal =>
        obtain ⟨hk3, hkp3, hi3⟩ := hp
        obtain ⟨hr, hl3, hl4, hk4⟩ := fin none W3 hk3
        exact ⟨_, _, hr, .inl ⟨rfl, ⟨hI.putObj _ hi3 (by omega) hl3 rfl, hl4, hk4⟩, hKt hkpa (hKt (hKt hw2 hkp3) (hKb _ _ _ _ (by omega) hl3 rfl rfl))⟩⟩
      | ret =>
        obtain ⟨hk3, hkp3, hi3⟩ := hp
        obtain ⟨hr, hl3, hl4, hk4⟩ := fin (some .ret) W3 hk3
        exact ⟨_, _, hr, .inr ⟨rfl, ⟨.ret, (hIx _).putObj _ hi3 (by omega) hl3 rfl, hl4, hk4⟩, hKt hkpa (hKt (hKt hw2 hkp3) (hKb _ _ _ _ (by omega) hl3 rfl rfl))⟩⟩
      | exit id =>
        obtain ⟨hk3, hkp3, hi3⟩ := hp
        obtain ⟨hr, hl3, hl4, hk4⟩ := fin (some (.exit id)) W3 hk3
        exact ⟨_, _, hr, .inr ⟨rfl, ⟨.exit id, (hIx _).putObj _ hi3 (by omega) hl3 rfl, hl4, hk4⟩, hKt hkpa (hKt (hKt hw2 hkp3) (hKb _ _ _ _ (by omega) hl3 rfl rfl))⟩⟩
      | goto t =>
        obtain ⟨hk3, hkp3, hi3⟩ := hp
        obtain ⟨hr, hl3, hl4, hk4⟩ := fin (some (.goto t)) W3 hk3
        exact ⟨_, _, hr, .inr ⟨rfl, ⟨.goto t, (hIx _).putObj _ hi3 (by omega) hl3 rfl, hl4, hk4⟩, hKt hkpa (hKt (hKt hw2 hkp3) (hKb _ _ _ _ (by omega) hl3 rfl rfl))⟩⟩
      | panic ch => exact hp.elim
      | outgrown => exact hp.elim
    · rintro e W2 ⟨⟨v, rfl⟩, (⟨xs, hs, hi, hl, hk⟩ | ⟨pre, hsp, c, hi, hl, hk⟩)⟩
      · exact ⟨none, _, by have := run_endLoop (P := P) hl (by rw [hrec]; simp); rw [hrec] at this; exact this, hdone _ xs _ (Nat.le_refl _) (hS _ _ _ _ _ hs (by omega) hl rfl rfl) (hI.putObj _ hi (by omega) hl rfl) ((World.putObj_heap_other (by omega)).trans hk)⟩
      · exact ⟨some c, _, by have := run_endLoop (P := P) hl (by rw [hrec]; simp); rw [hrec] at this; exact this, hstop _ c pre _ (Nat.le_refl _) (hSp _ _ _ _ _ hsp (by omega) hl rfl rfl) ((hIx c).putObj _ hi (by omega) hl rfl) ((World.putObj_heap_other (by omega)).trans hk)⟩
end Go.Proofs.YtpfplojkiloldaaGreatDoor
namespace Go.Proofs.YtpfplojkiloldaaGreatDoor
open Go.RowKit Go.Shelf
section
variable {F : Fence} {n : Nat} {P : Program} {ops : Array Oper} {Q : Exit → Act → World → Prop} {md : Region.Mode}
theorem ready_mem {L : Array Bool} {i : Nat} (h : i ∈ Region.ready md ops L) : i < ops.size ∧ L.getD i true = false ∧ ∀ o, ops[i]? = some o → ∀ e ∈ o.after.toList, Region.binds md e = true → L.getD e.on false = true := by
  unfold Region.ready at h
  rw [List.mem_filter] at h
  obtain ⟨h1, h2⟩ := h
  rw [Bool.and_eq_true] at h2
  refine ⟨List.mem_range.1 h1, by simpa using h2.1, fun o ho e he hb => ?_⟩
  have h3 := h2.2
  rw [ho] at h3
  simp only [Option.map_some, Option.getD_some] at h3
  rw [Array.all_eq_true'] at h3
  have h4 := h3 e (Array.mem_toList_iff.1 he)
  rw [hb] at h4
  simpa using h4
theorem ready_all {L : Array Bool} (h : Region.ready md ops L = []) (hs : L.size = ops.size) (hlow : ((List.range ops.size).all fun i => ((ops[i]?).map fun o => o.after.toList.all fun e => !Region.binds md e || decide (e.on < i)).getD true) = true) : ∀ i, i < ops.size → L.getD i false = true := by
  intro i
  induction i using Nat.strongRecOn with
  | _ i ih =>
    intro hi
    cases hb : L.getD i false with
    | true => rfl
    | false =>
      have hL : i < L.size := by omega
      have hb' : L[i] = false := by simpa [Array.getD, hL] using hb
      have hmem : i ∈ Region.ready md ops L := by
        unfold Region.ready
        rw [List.mem_filter]
        refine ⟨List.mem_range.2 hi, ?_⟩
        rw [Bool.and_eq_true]
        refine ⟨by simp [Array.getD, hL, hb'], ?_⟩
        have hl := List.all_eq_true.1 hlow i (List.mem_range.2 hi)
        rw [Array.getElem?_eq_getElem hi] at hl ⊢
        simp only [Option.map_some, Option.getD_some] at hl ⊢
        rw [List.all_eq_true] at hl
        rw [Array.all_eq_true']
        intro e he
        have h1 := hl e (Array.mem_toList_iff.2 he)
        rw [Bool.or_eq_true] at h1 ⊢
        rcases h1 with h1 | h1
        · exact .inl h1
        · have h1 := of_decide_eq_true h1
          exact .inr (ih e.on h1 (by omega))
      rw [h] at hmem
      cases hmem
theorem wpAnyIn_inv (Inv : Array Bool → Act → World → Prop)
    (hdone : ∀ L a w, Inv L a w → (Region.ready md ops L = []) → Q .normal a w)
    (hstep : ∀ L a w i, Inv L a w → i ∈ Region.ready md ops L → wpOpIn F n P ops Q i (fun a' w' => Inv (L.setIfInBounds i true) a' w') a w) :
    ∀ fuel L a w, Inv L a w → L.size = ops.size → L.toList.count false ≤ fuel → wpAnyIn F n P md ops Q fuel L a w := by
  intro fuel
  induction fuel with
  | zero =>
    intro L a w hI hs hc
    have hr : Region.ready md ops L = [] := by
      cases hr : Region.ready md ops L with
      | nil => rfl
      | cons i r =>
        have hm := ready_mem (md := md) (ops := ops) (L := L) (i := i) (by rw [hr]; exact List.mem_cons_self ..)
        have hL : i < L.size := by omega
        have h2 := hm.2.1
        have h3 : L[i] = false := by simpa [Array.getD, hL] using h2
        have h4 : L.toList.count false = 0 := by omega
        rw [List.count_eq_zero] at h4
        exact absurd (by rw [← h3]; exact Array.mem_toList_iff.2 (Array.getElem_mem hL)) h4
    exact ⟨hr, hdone L a w hI hr⟩
  | succ fuel ih =>
    intro L a w hI hs hc
    refine ⟨hdone L a w hI, fun i hi => ?_⟩
    have hm := ready_mem hi
    have hL : i < L.size := by omega
    have h3 : L[i] = false := by simpa [Array.getD, hL] using hm.2.1
    refine wpOpIn_mono (fun a' w' h => ih _ a' w' h (by simp [hs]) ?_) (hstep L a w i hI hi)
    have h5 : (L.setIfInBounds i true).toList = L.toList.set i true := by simp
    rw [h5, List.count_set (by simpa using hL)]
    have h6 : L.toList[i]'(by simpa using hL) = false := by simpa using h3
    rw [h6]
    have h7 : 0 < L.toList.count false := List.count_pos_iff.2 (by rw [← h3]; exact Array.mem_toList_iff.2 (Array.getElem_mem hL))
    simp
    simp at hc h7
    omega
end
theorem opIn_val {n l : Nat} {P : Program} {ops : Array Oper} {Q : Exit → Act → World → Prop} {i : Nat} {o : Oper} {a : Act} {w w' : World} {v : Value} {K : Act → World → Prop} (ho : ops[i]? = some o) (hg : o.guard = none) (hd : ∀ c, o.op ≠ .defer c)
    (hrun : (execOp a.eval o).run P w = .ok (.value v) w') (hK : K (a.put o.dst v) w') : wpOpIn (Fence.wide.inRound l) n P ops Q i K a w := by
  unfold wpOpIn
  rw [ho]
  simp only
  rw [if_pos (by simp [Region.wanted, hg])]
  refine ⟨fun _ _ => trivial, ?_⟩
  rw [Oper.semAt_eq _ _ _ hd, hrun]
  exact hK
theorem opIn_skip {n l : Nat} {P : Program} {ops : Array Oper} {Q : Exit → Act → World → Prop} {i : Nat} {o : Oper} {a : Act} {w w' : World} {K : Act → World → Prop} (ho : ops[i]? = some o) (hg : o.guard = none) (hd : ∀ c, o.op ≠ .defer c)
    (hrun : (execOp a.eval o).run P w = .ok .skip w') (hK : K (a.put o.dst undef) w') : wpOpIn (Fence.wide.inRound l) n P ops Q i K a w := by
  unfold wpOpIn
  rw [ho]
  simp only
  rw [if_pos (by simp [Region.wanted, hg])]
  refine ⟨fun _ _ => trivial, ?_⟩
  rw [Oper.semAt_eq _ _ _ hd, hrun]
  exact hK
theorem ev_same (a : Act) (d : Nat) (v : Value) (h : d < a.tmps.size) : (a.put (some d) v).eval (.tmp d) = v := by
  simp [Act.put, Act.eval, h]
theorem ev_ne (a : Act) (d e : Nat) (v : Value) (h : d ≠ e) : (a.put (some d) v).eval (.tmp e) = a.eval (.tmp e) := by
  simp [Act.put, Act.eval, h]
theorem put_size (a : Act) (d : Option Tmp) (v : Value) : (a.put d v).tmps.size = a.tmps.size := by
  cases d <;> simp [Act.put]
theorem set_at {L : Array Bool} {i : Nat} (h : i < L.size) : (L.setIfInBounds i true).getD i false = true := by simp [Array.getD, h]
theorem set_ne {L : Array Bool} {i j : Nat} (h : i ≠ j) : (L.setIfInBounds i true).getD j false = L.getD j false := by
  simp [Array.getD]
  split <;> simp_all
end Go.Proofs.YtpfplojkiloldaaGreatDoor
