/- Plain law of AllocApart: free, fresh and used pages are apart, and together all. Plain: a change's pages as nodes; what a tree of keys does to them. Blocks that stay; nodes and parts whose rows are no older than a block. A range over an iterator that turns memory of its own: the law. What the round keeps (Kp), what the iterator may do between rounds (Ab), what it says of what it yields (G), how it ends (S, Sp): all speak of worlds. A region that draws its order, inside a round: by an invariant over what has been done. A region that draws its order: what each operation gives holds at its end, whatever order was drawn. -/
import Derived.Test.YtpfplojkiloldaaGreatDoorQ03
import Derived.Test.YtpfplojkiloldaaGreatDoorQ06
import Derived.Test.YtpfplojkiloldaaGreatDoorQ08
namespace Rp
def nums (l : List Run) : List Int := l.flatMap fun r => (List.range (r.2 - r.1 + 1).toNat).map fun i : Nat => r.1 + (i : Int)
theorem nums_cons (r : Run) (l : List Run) : nums (r :: l) = ((List.range (r.2 - r.1 + 1).toNat).map fun i : Nat => r.1 + (i : Int)) ++ nums l := by
  unfold nums; rw [List.flatMap_cons]
theorem mem_run {r : Run} {x : Int} : x ∈ ((List.range (r.2 - r.1 + 1).toNat).map fun i : Nat => r.1 + (i : Int)) ↔ r.1 ≤ x ∧ x ≤ r.2 := by
  rw [List.mem_map]
  constructor
  · rintro ⟨i, hi, rfl⟩
    rw [List.mem_range] at hi; omega
  · rintro ⟨h1, h2⟩
    exact ⟨(x - r.1).toNat, by rw [List.mem_range]; omega, by omega⟩
theorem mem_nums {l : List Run} {x : Int} : x ∈ nums l ↔ Mem l x := by
  induction l with
  | nil => simp [nums, mem_nil]
  | cons r l ih => rw [nums_cons, List.mem_append, mem_run, ih, mem_cons]
theorem range_nodup (a : Int) (n : Nat) : ((List.range n).map fun i : Nat => a + (i : Int)).Nodup := by
  unfold List.Nodup
  rw [List.pairwise_map]
  exact List.Pairwise.imp (fun h e => h (by omega)) (List.nodup_range (n := n))
theorem nums_nodup : ∀ (l : List Run) (lo : Int), Canon lo l → (nums l).Nodup
  | [], _, _ => by simp [nums]
  | r :: l, lo, h => by
    rw [nums_cons, List.nodup_append]
    refine ⟨range_nodup _ _, nums_nodup l _ h.2.2.2, fun a ha b hb e => ?_⟩
    subst e
    have h1 := mem_run.1 ha
    have h2 := h.2.2.2.ge (mem_nums.1 hb)
    omega
theorem nums_length : ∀ (l : List Run) (lo : Int), Canon lo l → ((nums l).length : Int) = size l
  | [], _, _ => by simp [nums, size]
  | r :: l, lo, h => by
    rw [nums_cons, List.length_append]
    have ih := nums_length l _ h.2.2.2
    have h1 := h.2.1
    unfold size at *
    simp only [List.length_map, List.length_range, List.map_cons, List.sum_cons]
    omega
theorem count_nums (l : List Run) : count l = ((nums (norm l)).length : Int) := (nums_length _ 0 (norm_ok l).1).symm
def least (l : List Run) : Option Int := (nums (norm l)).head?
def ones (m : List Int) : List Run := m.map fun x => (x, x)
theorem mem_ones {m : List Int} {x : Int} : Mem (ones m) x ↔ x ∈ m := by
  unfold Mem ones
  constructor
  · rintro ⟨r, hr, h1, h2⟩
    obtain ⟨y, hy, rfl⟩ := List.mem_map.1 hr
    simp only at h1 h2
    obtain rfl : y = x := by omega
    exact hy
  · intro h
    exact ⟨(x, x), List.mem_map.2 ⟨x, h, rfl⟩, Int.le_refl _, Int.le_refl _⟩
theorem mem_two {p x : Int} : Mem [(2, p - 1)] x ↔ 2 ≤ x ∧ x < p := by
  rw [mem_cons]; simp only [mem_nil, or_false]; omega
structure Ap (room : Int) (fr used : List Run) (mine : List Int) (p : Int) : Prop where
  pg : 2 ≤ p ∧ p ≤ room ∧ room ≤ 100000
  cf : Canon 0 fr
  cu : Canon 0 used
  hf : ∀ x, Mem fr x → 2 ≤ x ∧ x < p
  hu : ∀ x, Mem used x → 2 ≤ x ∧ x < p
  hm : ∀ x, x ∈ mine → 2 ≤ x ∧ x < p
  all : ∀ x, 2 ≤ x → x < p → Mem fr x ∨ Mem used x ∨ x ∈ mine
  fu : ∀ x, Mem fr x → ¬ Mem used x
  fm : ∀ x, Mem fr x → x ∉ mine
  um : ∀ x, Mem used x → x ∉ mine
  nd : mine.Nodup
section
variable {room p : Int} {fr used : List Run} {mine : List Int}
theorem Ap.start (l : List Run) (h : 2 ≤ p ∧ p ≤ room ∧ room ≤ 100000) : Ap room (meet l [(2, p - 1)]) (minus [(2, p - 1)] l) [] p := by
  obtain ⟨c1, m1⟩ := meet_ok l [(2, p - 1)]
  obtain ⟨c2, m2⟩ := minus_ok [(2, p - 1)] l
  refine ⟨h, c1, c2, fun x hx => mem_two.1 ((m1 x).1 hx).2.2.2, fun x hx => mem_two.1 ((m2 x).1 hx).2.2.1, fun x hx => absurd hx List.not_mem_nil, fun x h1 h2 => ?_, fun x hx hy => ((m2 x).1 hy).2.2.2 ((m1 x).1 hx).2.2.1, fun x _ hx => absurd hx List.not_mem_nil, fun x _ hx => absurd hx List.not_mem_nil, List.nodup_nil⟩
  have h3 : 0 ≤ x ∧ x ≤ Most := by unfold Most; omega
  by_cases hl : Mem l x
  · exact .inl ((m1 x).2 ⟨h3.1, h3.2, hl, mem_two.2 ⟨h1, h2⟩⟩)
  · exact .inr (.inl ((m2 x).2 ⟨h3.1, h3.2, mem_two.2 ⟨h1, h2⟩, hl⟩))
theorem has_used {used : List Run} {x : Int} (hx : ¬ Mem used x) : has used x = false := by
  cases hh : has used x with
  | false => rfl
  | true => exact absurd ((has_iff _ _).1 hh).2.2 hx
theorem least_mem {l : List Run} (hc : Canon 0 l) {id : Int} (h : least l = some id) : Mem l id := by
  unfold least at h
  rw [norm_canon hc] at h
  exact mem_nums.1 (List.mem_of_head? h)
theorem least_none {l : List Run} (hc : Canon 0 l) (h : least l = none) (x : Int) : ¬ Mem l x := by
  unfold least at h
  rw [norm_canon hc, List.head?_eq_none_iff] at h
  intro hm
  have := mem_nums.2 hm
  rw [h] at this; cases this
theorem Ap.free (h : Ap room fr used mine p) {id : Int} (hid : least fr = some id) :
    id ∉ mine ∧ has used id = false ∧ 2 ≤ id ∧ id < p ∧ Ap room (minus fr [(id, id)]) used (mine ++ [id]) p := by
  have hm := least_mem h.cf hid
  have hr := h.hf id hm
  obtain ⟨c, m⟩ := minus_ok fr [(id, id)]
  refine ⟨h.fm id hm, has_used (h.fu id hm), hr.1, hr.2, h.pg, c, h.cu, fun x hx => h.hf x ((m x).1 hx).2.2.1, h.hu, fun x hx => ?_, fun x h1 h2 => ?_, fun x hx => h.fu x ((m x).1 hx).2.2.1, fun x hx hx2 => ?_, fun x hx hx2 => ?_, ?_⟩
  · rcases List.mem_append.1 hx with hx | hx
    · exact h.hm x hx
    · simp at hx; subst hx; exact hr
  · have h3 := h.pg
    rcases h.all x h1 h2 with h4 | h4 | h4
    · by_cases e : x = id
      · subst e; exact .inr (.inr (by simp))
      · exact .inl ((m x).2 ⟨by omega, by unfold Most; omega, h4, fun h5 => e ((mem_one id x).1 h5)⟩)
    · exact .inr (.inl h4)
    · exact .inr (.inr (List.mem_append_left _ h4))
  · obtain ⟨_, _, h4, h5⟩ := (m x).1 hx
    rcases List.mem_append.1 hx2 with h6 | h6
    · exact h.fm x h4 h6
    · simp at h6; exact h5 ((mem_one id x).2 h6)
  · rcases List.mem_append.1 hx2 with h6 | h6
    · exact h.um x hx h6
    · simp at h6; subst h6; exact h.fu x hm hx
  · rw [List.nodup_append]
    exact ⟨h.nd, by simp, fun a ha b hb e => by simp at hb; subst hb; subst e; exact h.fm _ hm ha⟩
theorem Ap.fresh (h : Ap room fr used mine p) (hp : p < room) :
    p ∉ mine ∧ has used p = false ∧ Ap room fr used (mine ++ [p]) (p + 1) := by
  have hpm : p ∉ mine := fun hx => by have := h.hm p hx; omega
  have hpu : ¬ Mem used p := fun hx => by have := h.hu p hx; omega
  have hpf : ¬ Mem fr p := fun hx => by have := h.hf p hx; omega
  have h0 := h.pg
  refine ⟨hpm, has_used hpu, by omega, h.cf, h.cu, fun x hx => by have := h.hf x hx; omega, fun x hx => by have := h.hu x hx; omega, fun x hx => ?_, fun x h1 h2 => ?_, h.fu, fun x hx hx2 => ?_, fun x hx hx2 => ?_, ?_⟩
  · rcases List.mem_append.1 hx with hx | hx
    · have := h.hm x hx; omega
    · simp at hx; omega
  · by_cases e : x = p
    · subst e; exact .inr (.inr (by simp))
    · rcases h.all x h1 (by omega) with h4 | h4 | h4
      · exact .inl h4
      · exact .inr (.inl h4)
      · exact .inr (.inr (List.mem_append_left _ h4))
  · rcases List.mem_append.1 hx2 with h6 | h6
    · exact h.fm x hx h6
    · simp at h6; subst h6; exact hpf hx
  · rcases List.mem_append.1 hx2 with h6 | h6
    · exact h.um x hx h6
    · simp at h6; subst h6; exact hpu hx
  · rw [List.nodup_append]
    exact ⟨h.nd, by simp, fun a ha b hb e => by simp at hb; subst hb; subst e; exact hpm ha⟩
theorem Ap.dropped (h : Ap room fr used mine p) {id : Int} (hid : id ∈ mine) : Ap room (union fr [(id, id)]) used (mine.filter fun x => x != id) p := by
  obtain ⟨c, m⟩ := union_ok fr [(id, id)]
  have hr := h.hm id hid
  have h0 := h.pg
  have hx2 : ∀ x, x ∈ (mine.filter fun x => x != id) ↔ x ∈ mine ∧ x ≠ id := fun x => by rw [List.mem_filter]; simp
  refine ⟨h.pg, c, h.cu, fun x hx => ?_, h.hu, fun x hx => h.hm x ((hx2 x).1 hx).1, fun x h1 h2 => ?_, fun x hx hu => ?_, fun x hx hm => ?_, fun x hx hm => h.um x hx ((hx2 x).1 hm).1, h.nd.sublist List.filter_sublist⟩
  · rcases ((m x).1 hx).1 with h4 | h4
    · exact h.hf x h4
    · rw [(mem_one id x).1 h4]; exact hr
  · have hb : 0 ≤ x ∧ x ≤ Most := by unfold Most; omega
    rcases h.all x h1 h2 with h4 | h4 | h4
    · exact .inl ((m x).2 ⟨.inl h4, hb⟩)
    · exact .inr (.inl h4)
    · by_cases e : x = id
      · exact .inl ((m x).2 ⟨.inr ((mem_one id x).2 e), hb⟩)
      · exact .inr (.inr ((hx2 x).2 ⟨h4, e⟩))
  · rcases ((m x).1 hx).1 with h4 | h4
    · exact h.fu x h4 hu
    · rw [(mem_one id x).1 h4] at hu; exact h.um id hu hid
  · obtain ⟨h5, h6⟩ := (hx2 x).1 hm
    rcases ((m x).1 hx).1 with h4 | h4
    · exact h.fm x h4 h5
    · exact h6 ((mem_one id x).1 h4)
theorem filter_out {l : List Int} {id : Int} (h : id ∉ l) : (l.filter fun x => x != id) = l := by
  rw [List.filter_eq_self]
  intro a ha
  simp only [bne_iff_ne, ne_eq]
  rintro rfl
  exact h ha
theorem Ap.mem_now (h : Ap room fr used mine p) (x : Int) : (Mem fr x ∨ Mem (ones mine) x ∨ Mem used x) ↔ 2 ≤ x ∧ x < p := by
  rw [mem_ones]
  constructor
  · rintro (h1 | h1 | h1)
    · exact h.hf x h1
    · exact h.hm x h1
    · exact h.hu x h1
  · rintro ⟨h1, h2⟩
    rcases h.all x h1 h2 with h3 | h3 | h3
    · exact .inl h3
    · exact .inr (.inr h3)
    · exact .inr (.inl h3)
theorem Ap.sum (h : Ap room fr used mine p) : count fr + count (ones mine) + count used = count [(2, p - 1)] := by
  obtain ⟨c3, m3⟩ := norm_ok (ones mine)
  obtain ⟨c2, m2⟩ := norm_ok [(2, p - 1)]
  have h0 := h.pg
  have e : ∀ x, x ∈ nums (norm (ones mine)) ↔ x ∈ mine := fun x => by
    rw [mem_nums, m3, mem_ones]
    exact ⟨fun h => h.1, fun hx => ⟨hx, by have := h.hm x hx; unfold Most; omega⟩⟩
  have hp : (nums (norm fr) ++ (nums (norm (ones mine)) ++ nums (norm used))).Perm (nums (norm [(2, p - 1)])) := by
    rw [norm_canon h.cf, norm_canon h.cu]
    refine (List.perm_ext_iff_of_nodup ?_ (nums_nodup _ 0 c2)).2 fun x => ?_
    · rw [List.nodup_append, List.nodup_append]
      refine ⟨nums_nodup _ 0 h.cf, ⟨nums_nodup _ 0 c3, nums_nodup _ 0 h.cu, ?_⟩, ?_⟩
      · rintro a ha b hb rfl
        exact h.um a (mem_nums.1 hb) ((e a).1 ha)
      · rintro a ha b hb rfl
        rcases List.mem_append.1 hb with hb | hb
        · exact h.fm a (mem_nums.1 ha) ((e a).1 hb)
        · exact h.fu a (mem_nums.1 ha) (mem_nums.1 hb)
    · rw [List.mem_append, List.mem_append, e, mem_nums, mem_nums, mem_nums, m2, mem_two, ← mem_ones, h.mem_now]
      exact ⟨fun h1 => ⟨h1, by unfold Most; omega⟩, fun h1 => h1.1⟩
  have hl := hp.length_eq
  rw [List.length_append, List.length_append] at hl
  rw [count_nums, count_nums, count_nums, count_nums]
  omega
end
end Rp
namespace Tp
open Nd
abbrev Run := Rp.Run
structure Pst where
  free : List Run
  pages : Int
  mine : List Int
  nd : Int → Option Node
def Pst.put (σ : Pst) (id : Int) (n : Node) : Pst := { σ with nd := fun j => if j = id then some n else σ.nd j }
def Pst.view (disk : Int → Option Node) (σ : Pst) (id : Int) : Option Node :=
  if id ∈ σ.mine then σ.nd id else if 2 ≤ id ∧ id < σ.pages ∧ Rp.has σ.free id = false then disk id else none
def allocV (free : List Run) (pages room : Int) : Option (Int × List Run × Int) :=
  match Rp.least free with
  | some id => some (id, Rp.minus free [(id, id)], pages)
  | none => if room ≤ pages then none else some (pages, free, pages + 1)
def pAlloc (room : Int) (σ : Pst) : Option (Int × Pst) := match allocV σ.free σ.pages room with
  | none => none
  | some (id, fr, p) => some (id, ⟨fr, p, σ.mine ++ [id], fun j => if j = id then none else σ.nd j⟩)
def pDrop (σ : Pst) (id : Int) : Pst := { σ with free := if id ∈ σ.mine then Rp.union σ.free [(id, id)] else σ.free, mine := σ.mine.filter fun x => x != id }
def pSave (room : Int) (σ : Pst) (id : Int) (n : Node) : Except Int Int × Pst :=
  if fits n = false then (.error 3, σ)
  else if id ∈ σ.mine then (.ok id, σ.put id n)
  else match pAlloc room σ with
    | none => (.error 2, σ)
    | some (id', σ') => (.ok id', σ'.put id' n)
abbrev Part := List Int × List En.Str
def cut (n : Node) : Option (Node × En.Str × Node) := if 240 < size n then split n else none
def pStore (room : Int) : Nat → Pst → Int → Node → Except Int Part × Pst
  | 0, σ, _, _ => (.error 3, σ)
  | f + 1, σ, id, n =>
    if n.ents.length + n.kids.length = 0 then (.ok ([], []), pDrop σ id)
    else match cut n with
      | some (a, key, b) => match pStore room f σ id a with
        | (.error e, σ1) => (.error e, σ1)
        | (.ok one, σ1) => match pStore room f σ1 0 b with
          | (.error e, σ2) => (.error e, σ2)
          | (.ok two, σ2) => (.ok (one.1 ++ two.1, one.2 ++ [key] ++ two.2), σ2)
      | none => match pSave room σ id n with
        | (.error e, σ1) => (.error e, σ1)
        | (.ok p, σ1) => (.ok ([p], []), σ1)
def fuelOf (n : Node) : Nat := n.ents.length + n.kids.length + 1
def sib (n : Node) (i : Nat) : Nat := if i + 1 = n.kids.length then i - 1 else i
def pFill (room : Int) (disk : Int → Option Node) (σ : Pst) (n : Node) (i d : Nat) : Except Int Node × Pst :=
  if 24 ≤ d then (.error 3, σ) else
  match σ.view disk (n.kids.getD i 0) with
  | none => (.error 3, σ)
  | some kid => if 80 ≤ size kid then (.ok n, σ) else
    match σ.view disk (n.kids.getD (sib n i) 0) with
    | none => (.error 3, σ)
    | some a => match σ.view disk (n.kids.getD (sib n i + 1) 0) with
      | none => (.error 3, σ)
      | some b => if (a.leaf != b.leaf) = true ∨ fits (join a (n.keys.getD (sib n i) ⟨#[]⟩) b) = false then (.ok n, σ)
        else match pSave room σ (n.kids.getD (sib n i) 0) (join a (n.keys.getD (sib n i) ⟨#[]⟩) b) with
          | (.error e, σ1) => (.error e, σ1)
          | (.ok page, σ1) => (.ok (swap n (sib n i) (sib n i + 2) [page] []), pDrop σ1 (n.kids.getD (sib n i + 1) 0))
def pFillIf (room : Int) (disk : Int → Option Node) (p : Part) (σ : Pst) (n : Node) (i d : Nat) : Except Int Node × Pst :=
  if p.1.length = 1 ∧ 1 < n.kids.length then pFill room disk σ n i d else (.ok n, σ)
def pChange (room : Int) (disk : Int → Option Node) (g : List En.Ent → List En.Ent) (key : En.Str) : Nat → Pst → Int → Except Int Part × Pst
  | 0, σ, _ => (.error 3, σ)
  | f + 1, σ, id => match σ.view disk id with
    | none => (.error 3, σ)
    | some n => if n.leaf then pStore room (fuelOf (mkLeaf (g n.ents))) σ id (mkLeaf (g n.ents))
      else match pChange room disk g key f σ (n.kids.getD (child n.keys key) 0) with
        | (.error e, σ1) => (.error e, σ1)
        | (.ok p, σ1) => match pFillIf room disk p σ1 (swap n (child n.keys key) (child n.keys key + 1) p.1 p.2) (child n.keys key) (24 - f) with
          | (.error e, σ2) => (.error e, σ2)
          | (.ok n2, σ2) => pStore room (fuelOf n2) σ2 id n2
def pShrink (disk : Int → Option Node) : Nat → Pst → Int → Except Int Int × Pst
  | 0, σ, _ => (.error 3, σ)
  | f + 1, σ, id => match σ.view disk id with
    | none => (.error 3, σ)
    | some n => if n.leaf = true ∨ 1 < n.kids.length then (.ok id, σ) else pShrink disk f (pDrop σ id) (n.kids.getD 0 0)
def pGrow (room : Int) (disk : Int → Option Node) : Nat → Pst → Part → Except Int Int × Pst
  | 0, σ, _ => (.error 3, σ)
  | f + 1, σ, p =>
    if 1 < p.1.length then match pStore room (p.1.length + 1) σ 0 (mkInner p.1 p.2) with
      | (.error e, σ1) => (.error e, σ1)
      | (.ok q, σ1) => pGrow room disk f σ1 q
    else match p.1 with
      | [] => (.ok 0, σ)
      | id :: _ => pShrink disk 24 σ id
def pFirst (room : Int) (disk : Int → Option Node) (g : List En.Ent → List En.Ent) (key : En.Str) (σ : Pst) (root : Int) : Except Int Part × Pst :=
  if root = 0 then pStore room (fuelOf (mkLeaf (g []))) σ 0 (mkLeaf (g [])) else pChange room disk g key 24 σ root
def pUpdate (room : Int) (disk : Int → Option Node) (g : List En.Ent → List En.Ent) (key : En.Str) (σ : Pst) (root : Int) : Except Int Int × Pst :=
  match pFirst room disk g key σ root with
  | (.error e, σ1) => (.error e, σ1)
  | (.ok p, σ1) => pGrow room disk (p.1.length + 1) σ1 p
def pFind (disk : Int → Option Node) (σ : Pst) (key : En.Str) : Nat → Int → Except Int (Option En.Str)
  | 0, id => if id = 0 then .ok none else .error 3
  | f + 1, id => if id = 0 then .ok none else match σ.view disk id with
    | none => .error 3
    | some n => if n.leaf then .ok (En.get n.ents key) else pFind disk σ key f (n.kids.getD (child n.keys key) 0)
def goKids {S : Type} (vis : Int → S → S × Except Int Bool) : List Int → S → S × Except Int Bool
  | [], s => (s, .ok true)
  | k :: r, s => match vis k s with
    | (s', .ok true) => goKids vis r s'
    | (s', x) => (s', x)
def place (l : List En.Ent) (key : En.Str) : Nat := (l.takeWhile fun x => En.lt x.1 key).length
def pVisit {S : Type} (disk : Int → Option Node) (σ : Pst) (frm : En.Str) (step : S → List En.Ent → S × Bool) : Nat → Int → S → S × Except Int Bool
  | 0, _, s => (s, .error 3)
  | f + 1, id, s => match σ.view disk id with
    | none => (s, .error 3)
    | some n => if n.leaf then ((step s (n.ents.drop (place n.ents frm))).1, .ok (step s (n.ents.drop (place n.ents frm))).2)
      else goKids (pVisit disk σ frm step f) (n.kids.drop (child n.keys frm)) s
def pWalkKids (wk : List (Int × Nat × Node) → Int → List (Int × Nat × Node) × Int) : List Int → List (Int × Nat × Node) → List (Int × Nat × Node) × Int
  | [], l => (l, 0)
  | k :: r, l => match wk l k with
    | (l', 0) => pWalkKids wk r l'
    | (l', e) => (l', e)
def pWalk (disk : Int → Option Node) (σ : Pst) : Nat → List (Int × Nat × Node) → Int → List (Int × Nat × Node) × Int
  | 0, l, _ => (l, 3)
  | f + 1, l, id => match σ.view disk id with
    | none => (l, 3)
    | some n => pWalkKids (pWalk disk σ f) n.kids (l ++ [(id, 24 - (f + 1), n)])
end Tp
namespace Go.Proofs.YtpfplojkiloldaaGreatDoor
open Go.RowKit Go.Shelf
structure Fr (S : Nat → Prop) (w w' : World) : Prop where
  os : w'.os = w.os
  tape : w'.tape = w.tape
  output : w'.output = w.output
  size : w.heap.size ≤ w'.heap.size
  block : ∀ k, k < w.heap.size → ¬ S k → w'.heap[k]? = w.heap[k]?
section
variable {S S' : Nat → Prop} {w w' w'' : World}
theorem Fr.refl (w : World) : Fr S w w := ⟨rfl, rfl, rfl, Nat.le_refl _, fun _ _ _ => rfl⟩
theorem Fr.of_below (h : Below w.heap.size w w') : Fr S w w' := ⟨h.os, h.tape, h.output, h.size, fun k hk _ => h.block k hk⟩
theorem Fr.trans (h : Fr S w w') (h' : Fr S w' w'') : Fr S w w'' :=
  ⟨h'.os.trans h.os, h'.tape.trans h.tape, h'.output.trans h.output, Nat.le_trans h.size h'.size, fun k hk a => (h'.block k (Nat.lt_of_lt_of_le hk h.size) a).trans (h.block k hk a)⟩
theorem Fr.then_ (h : Fr S w w') (h' : Below w'.heap.size w' w'') : Fr S w w'' := h.trans (.of_below h')
theorem Fr.after {B : Nat} (h0 : Below B w w') (hB : w.heap.size ≤ B) (h : Fr S w' w'') : Fr S w w'' := (Fr.of_below (h0.mono hB)).trans h
theorem Fr.more (h : Fr S w w') (hS : ∀ k, S k → S' k) : Fr S' w w' := ⟨h.os, h.tape, h.output, h.size, fun k hk a => h.block k hk (fun b => a (hS k b))⟩
theorem Fr.blk (h : Fr S w w') {g : Nat} {ty : TypeId} {cs : Array Value} (hB : Blk w g ty cs) (hg : ¬ S g) : Blk w' g ty cs := (h.block g hB.lt hg).trans hB
theorem Fr.set_ {g i : Nat} (hg : S g) (v : Value) : Fr S w (w.setCell ⟨g, i, none⟩ v) := by
  have h := only_setCell (World.grownBy.refl w (some g)) (p := ⟨g, i, none⟩) (.inl rfl) v
  exact ⟨h.os, h.tape, h.output, h.size, fun k hk a => h.block k hk (fun e => by injection e with e; subst e; exact a hg)⟩
theorem Fr.low {B : Nat} (h : Fr S w w') (hB : B ≤ w.heap.size) (hS : ∀ k, S k → B ≤ k) : Below B w w' := ⟨h.os, h.tape, h.output, h.size, fun k hk => h.block k (by omega) (fun a => by have := hS k a; omega)⟩
theorem LO.fr {α : Type} {E : Enc α} {ty : TypeId} {base : Nat} {v : Value} {l : List α} (h : LO E ty w base v l) (hf : Fr S w w') (hS : ∀ k, S k → k < base) : LO E ty w' base v l := by
  obtain ⟨h1, h2⟩ := h
  refine ⟨h1, ?_⟩
  rcases h2 with h2 | ⟨g, cap, cur, e1, e2, e3, e4⟩
  · exact .inl h2
  · exact .inr ⟨g, cap, cur, e1, e2, (hf.block g (Array.getElem?_eq_some_iff.1 e3).1 (fun a => by have := hS g a; omega)).trans e3, e4⟩
theorem LO.fr' {α : Type} {E : Enc α} {ty : TypeId} {base : Nat} {v : Value} {l : List α} (h : LO E ty w base v l) (hf : Fr S w w') (hS : ∀ k, S k → k < base) : LO E ty w' base v l := h.fr hf hS
end
def NF (lo : Nat) (w : World) (v : Value) (n : Nd.Node) : Prop := ∃ Ae ce Ai ci Ay cy, v = nodeV n.leaf Ae n.ents.length ce Ai n.kids.length ci Ay n.keys.length cy ∧ LO entE 38 w lo (.slice Ae n.ents.length ce) n.ents ∧ LO intE 3 w lo (.slice Ai n.kids.length ci) n.kids ∧ LO keyE 9 w lo (.slice Ay n.keys.length cy) n.keys
section
variable {S : Nat → Prop} {w w' : World} {lo lo' : Nat} {v : Value} {n : Nd.Node}
theorem NF.ns (h : NF lo w v n) : NS w v n := by
  obtain ⟨Ae, ce, Ai, ci, Ay, cy, e, h1, h2, h3⟩ := h
  exact ⟨Ae, ce, Ai, ci, Ay, cy, e, h1.sv, h2.sv, h3.sv⟩
theorem NF.below (h : NF lo w v n) (hb : Below w.heap.size w w') : NF lo w' v n := by
  obtain ⟨Ae, ce, Ai, ci, Ay, cy, e, h1, h2, h3⟩ := h
  exact ⟨Ae, ce, Ai, ci, Ay, cy, e, h1.below hb, h2.below hb, h3.below hb⟩
theorem NF.lower (h : NF lo w v n) (hl : lo' ≤ lo) : NF lo' w v n := by
  obtain ⟨Ae, ce, Ai, ci, Ay, cy, e, h1, h2, h3⟩ := h
  exact ⟨Ae, ce, Ai, ci, Ay, cy, e, h1.lower hl, h2.lower hl, h3.lower hl⟩
theorem NF.fr (h : NF lo w v n) (hf : Fr S w w') (hS : ∀ k, S k → k < lo) : NF lo w' v n := by
  obtain ⟨Ae, ce, Ai, ci, Ay, cy, e, h1, h2, h3⟩ := h
  exact ⟨Ae, ce, Ai, ci, Ay, cy, e, h1.fr hf hS, h2.fr hf hS, h3.fr hf hS⟩
end
def prtV (Ai : Option Addr) (ni ci : Nat) (Ay : Option Addr) (ny cy : Nat) : Value := .agg #[.slice Ai ni ci, .slice Ay ny cy]
def PF (lo : Nat) (w : World) (v : Value) (p : Tp.Part) : Prop := ∃ Ai ci Ay cy, v = prtV Ai p.1.length ci Ay p.2.length cy ∧ LO intE 3 w lo (.slice Ai p.1.length ci) p.1 ∧ LO keyE 9 w lo (.slice Ay p.2.length cy) p.2
section
variable {S : Nat → Prop} {w w' : World} {lo lo' : Nat} {v : Value} {p : Tp.Part}
theorem PF.below (h : PF lo w v p) (hb : Below w.heap.size w w') : PF lo w' v p := by
  obtain ⟨Ai, ci, Ay, cy, e, h2, h3⟩ := h
  exact ⟨Ai, ci, Ay, cy, e, h2.below hb, h3.below hb⟩
theorem PF.lower (h : PF lo w v p) (hl : lo' ≤ lo) : PF lo' w v p := by
  obtain ⟨Ai, ci, Ay, cy, e, h2, h3⟩ := h
  exact ⟨Ai, ci, Ay, cy, e, h2.lower hl, h3.lower hl⟩
theorem PF.fr (h : PF lo w v p) (hf : Fr S w w') (hS : ∀ k, S k → k < lo) : PF lo w' v p := by
  obtain ⟨Ai, ci, Ay, cy, e, h2, h3⟩ := h
  exact ⟨Ai, ci, Ay, cy, e, h2.fr hf hS, h3.fr hf hS⟩
end
end Go.Proofs.YtpfplojkiloldaaGreatDoor
namespace Go.Proofs.YtpfplojkiloldaaGreatDoor
open Go.RowKit Go.Shelf
end Go.Proofs.YtpfplojkiloldaaGreatDoor
namespace Go.Proofs.YtpfplojkiloldaaGreatDoor
open Go.RowKit Go.Shelf
section
variable {F : Fence} {n : Nat} {P : Program} {ops : Array Oper} {Q : Exit → Act → World → Prop} {md : Region.Mode}
theorem ready_mem {L : Array Bool} {i : Nat} (h : i ∈ Region.ready md ops L) : i < ops.size ∧ L.getD i true = false ∧ ∀ o, ops[i]? = some o → ∀ e ∈ o.after.toList, Region.binds md e = true → L.getD e.on false = true := by
  unfold Region.ready at h
  rw [List.mem_filter] at h
  obtain ⟨h1, h2⟩ := h
  rw [Bool.and_eq_true] at h2
  refine ⟨List.mem_range.1 h1, by simpa using h2.1, fun o ho e he hb => ?_⟩
  have h3 := h2.2
  rw [ho] at h3
  simp only [Option.map_some, Option.getD_some] at h3
  rw [Array.all_eq_true'] at h3
  have h4 := h3 e (Array.mem_toList_iff.1 he)
  rw [hb] at h4
  simpa using h4
theorem ready_all {L : Array Bool} (h : Region.ready md ops L = []) (hs : L.size = ops.size) (hlow : ((List.range ops.size).all fun i => ((ops[i]?).map fun o => o.after.toList.all fun e => !Region.binds md e || decide (e.on < i)).getD true) = true) : ∀ i, i < ops.size → L.getD i false = true := by
  intro i
  induction i using Nat.strongRecOn with
  | _ i ih =>
    intro hi
    cases hb : L.getD i false with
    | true => rfl
    | false =>
      have hL : i < L.size := by omega
      have hb' : L[i] = false := by simpa [Array.getD, hL] using hb
      have hmem : i ∈ Region.ready md ops L := by
        unfold Region.ready
        rw [List.mem_filter]
        refine ⟨List.mem_range.2 hi, ?_⟩
        rw [Bool.and_eq_true]
        refine ⟨by simp [Array.getD, hL, hb'], ?_⟩
        have hl := List.all_eq_true.1 hlow i (List.mem_range.2 hi)
        rw [Array.getElem?_eq_getElem hi] at hl ⊢
        simp only [Option.map_some, Option.getD_some] at hl ⊢
        rw [List.all_eq_true] at hl
        rw [Array.all_eq_true']
        intro e he
        have h1 := hl e (Array.mem_toList_iff.2 he)
        rw [Bool.or_eq_true] at h1 ⊢
        rcases h1 with h1 | h1
        · exact .inl h1
        · have h1 := of_decide_eq_true h1
          exact .inr (ih e.on h1 (by omega))
      rw [h] at hmem
      cases hmem
end
theorem set_at {L : Array Bool} {i : Nat} (h : i < L.size) : (L.setIfInBounds i true).getD i false = true := by simp [Array.getD, h]
theorem set_ne {L : Array Bool} {i j : Nat} (h : i ≠ j) : (L.setIfInBounds i true).getD j false = L.getD j false := by
  simp [Array.getD]
  split <;> simp_all
end Go.Proofs.YtpfplojkiloldaaGreatDoor
namespace Go.Proofs.YtpfplojkiloldaaGreatDoor
open Go.RowKit Go.Shelf
structure Is (base : Nat) where
  own : Option Nat
  p : Value → World → Prop
  up : ∀ v W W' S, p v W → Fr S W W' → (∀ k, S k → k < base ∧ own ≠ some k) → p v W'
def Is.any (base : Nat) : Is base := ⟨none, fun _ _ => True, fun _ _ _ _ _ _ _ => trivial⟩
def Is.eq (base : Nat) (v : Value) : Is base := ⟨none, fun x _ => x = v, fun _ _ _ _ h _ _ => h⟩
def Is.blk (base : Nat) (ty : TypeId) (n : Nat) (cs : Array Value) : Is base := ⟨none, fun v W => ∃ b, base ≤ b ∧ v = .slice (some ⟨b, 0, none⟩) n n ∧ Blk W b ty cs, fun _ _ _ _ ⟨b, h0, h1, h2⟩ hf hS => ⟨b, h0, h1, hf.blk h2 (fun a => by have := hS b a; omega)⟩⟩
def Is.row (base : Nat) {α : Type} (E : Enc α) (ty : TypeId) (l : List α) : Is base := ⟨none, fun v W => LO E ty W base v l ∧ ∃ A c, v = .slice A l.length c, fun _ _ _ _ h hf hS => ⟨LO.fr' h.1 hf (fun k a => (hS k a).1), h.2⟩⟩
def Is.node (base : Nat) (n : Nd.Node) : Is base := ⟨none, fun v W => NF base W v n, fun _ _ _ _ h hf hS => h.fr hf (fun k a => (hS k a).1)⟩
def Is.put (base g : Nat) (n : Nd.Node) : Is base := ⟨some g, fun _ W => ∃ cs, NF base W (.agg cs) n ∧ Blk W g 58 cs, fun _ _ _ _ ⟨cs, h1, h2⟩ hf hS => ⟨cs, h1.fr hf (fun k a => (hS k a).1), hf.blk h2 (fun a => (hS g a).2 rfl)⟩⟩
def Does (o : Oper) (a : Act) (W : World) (R : Value → World → Prop) : Prop :=
  (∃ v w', (execOp a.eval o).run Tryz.prog W = .ok (.value v) w' ∧ R v w') ∨ (∃ w', (execOp a.eval o).run Tryz.prog W = .ok .skip w' ∧ R undef w') ∨ (∃ f args, (execOp a.eval o).run Tryz.prog W = .ok (.enter f args) W ∧ Calls Tryz.prog f args W fun e w' => ∃ v, e = .returned v ∧ R v w')
theorem Does.wp {o : Oper} {a : Act} {W : World} {R : Value → World → Prop} {K : Act → World → Prop} {Q : Exit → Act → World → Prop} (h : Does o a W R) (hK : ∀ v w', R v w' → K (a.put o.dst v) w') : o.wp Tryz.prog a W K Q := by
  unfold Oper.wp
  rcases h with ⟨v, w', hr, h⟩ | ⟨w', hr, h⟩ | ⟨f, args, hr, h⟩
  · rw [hr, Oper.upon_value]; exact hK v w' h
  · rw [hr, Oper.upon_skip]; exact hK _ w' h
  · rw [hr, Oper.upon_enter]
    refine Calls.mono h ?_
    rintro e w' ⟨v, rfl, h⟩
    exact hK v w' h
def depOn (ops : Array Oper) (i j : Nat) : Bool := ((ops[i]?).map fun o => o.after.toList.any fun e => Region.binds .any e && e.on == j).getD false
abbrev isAt {base : Nat} (Vs : List (Is base)) (i : Nat) : Is base := Vs.getD i (Is.any base)
def OwnS {base : Nat} (Vs : List (Is base)) (k : Nat) : Prop := ∃ i, (isAt Vs i).own = some k
theorem ownS_mem {base : Nat} {Vs : List (Is base)} {k : Nat} (h : OwnS Vs k) : k ∈ Vs.filterMap (·.own) := by
  obtain ⟨i, h⟩ := h
  rw [List.mem_filterMap]
  unfold isAt at h
  rw [List.getD_eq_getElem?_getD] at h
  cases hg : Vs[i]? with
  | none => rw [hg] at h; simp [Is.any] at h
  | some x => rw [hg] at h; exact ⟨x, List.mem_of_getElem? hg, h⟩
theorem own_inj {base : Nat} : ∀ {Vs : List (Is base)}, (Vs.filterMap (·.own)).Nodup → ∀ {i j k}, (isAt Vs i).own = some k → (isAt Vs j).own = some k → i = j
  | [], _, i, j, k, h, _ => by simp [isAt, Is.any] at h
  | V :: Vs, hn, i, j, k, h1, h2 => by
    have hmem : ∀ {i : Nat}, (isAt Vs i).own = some k → k ∈ Vs.filterMap (·.own) := fun {i} h => by
      rw [List.mem_filterMap]
      unfold isAt at h
      rw [List.getD_eq_getElem?_getD] at h
      cases hg : Vs[i]? with
      | none => rw [hg] at h; simp [Is.any] at h
      | some x => rw [hg] at h; exact ⟨x, List.mem_of_getElem? hg, h⟩
    cases i with
    | zero =>
      cases j with
      | zero => rfl
      | succ j =>
        have h1' : V.own = some k := h1
        have h2' : (isAt Vs j).own = some k := h2
        rw [List.filterMap_cons_some h1', List.nodup_cons] at hn
        exact absurd (hmem h2') hn.1
    | succ i =>
      have h1' : (isAt Vs i).own = some k := h1
      cases j with
      | zero =>
        have h2' : V.own = some k := h2
        rw [List.filterMap_cons_some h2', List.nodup_cons] at hn
        exact absurd (hmem h1') hn.1
      | succ j =>
        have h2' : (isAt Vs j).own = some k := h2
        have hn' : (Vs.filterMap (·.own)).Nodup := by
          cases hV : V.own with
          | none => rwa [List.filterMap_cons_none hV] at hn
          | some x => rw [List.filterMap_cons_some hV, List.nodup_cons] at hn; exact hn.2
        rw [own_inj hn' h1' h2']
structure FlowInv {base : Nat} (mk : (Nat → Value) → Act) (Vs : List (Is base)) (ops : Array Oper) (w : World) (L : Array Bool) (a : Act) (W : World) : Prop where
  sz : L.size = ops.size
  fr : Fr (OwnS Vs) w W
  old : ∀ i k, (isAt Vs i).own = some k → L.getD i false = false → W.heap[k]? = w.heap[k]?
  closed : ∀ j i, L.getD j false = true → depOn ops j i = true → L.getD i false = true
  act : ∃ u, a = mk u ∧ ∀ i, i < ops.size → L.getD i false = true → (isAt Vs i).p (u i) W
abbrev Step1 {base : Nat} (mk : (Nat → Value) → Act) (Vs : List (Is base)) (i : Nat) (o : Oper) (u : Nat → Value) (W : World) : Prop :=
  Does o (mk u) W (fun v W' => (mk u).put o.dst v = mk (fun j => if j = i then v else u j) ∧ (isAt Vs i).p v W' ∧ Fr (fun k => (isAt Vs i).own = some k) W W')
section
variable {base : Nat} {Q : Exit → Act → World → Prop} {ops : Array Oper} {w : World}
theorem wpAny_flow {md : Region.Mode} (mk : (Nat → Value) → Act) (Vs : List (Is base)) (hmd : md = .any)
    (hlow : ((List.range ops.size).all fun i => ((ops[i]?).map fun o => o.after.toList.all fun e => !Region.binds .any e || decide (e.on < i)).getD true) = true)
    (hgd : ops.toList.all (fun o => o.guard.isNone) = true) (hbw : base ≤ w.heap.size) (hown : ∀ k, OwnS Vs k → k < base) (hnd : (Vs.filterMap (·.own)).Nodup)
    (hstep : ∀ i o, ops[i]? = some o → ∀ u W, Fr (OwnS Vs) w W → (∀ j k, (isAt Vs j).own = some k → (j = i ∨ depOn ops j i = true) → W.heap[k]? = w.heap[k]?) → (∀ j, depOn ops i j = true → (isAt Vs j).p (u j) W) → Step1 mk Vs i o u W)
    (hend : ∀ u W, Fr (OwnS Vs) w W → (∀ i, i < ops.size → (isAt Vs i).p (u i) W) → Q .normal (mk u) W) :
    ∀ fuel L a W, FlowInv mk Vs ops w L a W → L.toList.count false ≤ fuel → wpAny Tryz.prog md ops Q fuel L a W := by
  subst hmd
  have hdone : ∀ L a W, FlowInv mk Vs ops w L a W → Region.ready .any ops L = [] → Q .normal a W := by
    rintro L a W ⟨hs, hb, _, _, u, rfl, hu⟩ hr
    have hall := ready_all hr hs hlow
    exact hend u W hb (fun i hi => hu i hi (hall i hi))
  intro fuel
  induction fuel with
  | zero =>
    intro L a W hI hc
    have hr : Region.ready .any ops L = [] := by
      cases hr : Region.ready .any ops L with
      | nil => rfl
      | cons i r =>
        have hm := ready_mem (md := .any) (ops := ops) (L := L) (i := i) (by rw [hr]; exact List.mem_cons_self ..)
        have hL : i < L.size := by have := hI.sz; omega
        have h2 := hm.2.1
        have h3 : L[i] = false := by simpa [Array.getD, hL] using h2
        have h4 : L.toList.count false = 0 := by omega
        rw [List.count_eq_zero] at h4
        exact absurd (by rw [← h3]; exact Array.mem_toList_iff.2 (Array.getElem_mem hL)) h4
    exact ⟨hr, hdone L a W hI hr⟩
  | succ fuel ih =>
    intro L a W hI hc
    refine ⟨hdone L a W hI, fun i hi => ?_⟩
    have hm := ready_mem hi
    have hL : i < L.size := by have := hI.sz; omega
    have h3 : L[i] = false := by simpa [Array.getD, hL] using hm.2.1
    have hcnt : (L.setIfInBounds i true).toList.count false ≤ fuel := by
      have h5 : (L.setIfInBounds i true).toList = L.toList.set i true := by simp
      rw [h5, List.count_set (by simpa using hL)]
      have h6 : L.toList[i]'(by simpa using hL) = false := by simpa using h3
      rw [h6]
      have h7 : 0 < L.toList.count false := List.count_pos_iff.2 (by rw [← h3]; exact Array.mem_toList_iff.2 (Array.getElem_mem hL))
      simp
      simp at hc h7
      omega
    obtain ⟨hs, hb, hol, hcl, u, rfl, hu⟩ := hI
    obtain ⟨o, ho⟩ : ∃ o, ops[i]? = some o := ⟨_, Array.getElem?_eq_getElem hm.1⟩
    have hg : o.guard = none := by
      have := List.all_eq_true.1 hgd o (Array.mem_toList_iff.2 (Array.mem_of_getElem? ho))
      simpa using this
    have hdep : ∀ j, depOn ops i j = true → (isAt Vs j).p (u j) W := by
      intro j hj
      unfold depOn at hj
      rw [ho] at hj
      simp only [Option.map_some, Option.getD_some, List.any_eq_true, Bool.and_eq_true, beq_iff_eq] at hj
      obtain ⟨e, he, hbd, rfl⟩ := hj
      have h1 := hm.2.2 o ho e he hbd
      refine hu e.on ?_ h1
      have h2 : e.on < L.size := by
        by_cases h : e.on < L.size
        · exact h
        · simp [Array.getD, h] at h1
      omega
    have hd := hstep i o ho u W hb (fun j k hk hj => hol j k hk (by
      rcases hj with rfl | hj
      · simpa [Array.getD, hL] using h3
      · cases hl : L.getD j false with
        | false => rfl
        | true =>
          have := hcl j i hl hj
          simp [Array.getD, hL, h3] at this)) hdep
    unfold wpOp
    rw [ho]
    simp only
    rw [if_pos (by simp [Region.wanted, hg])]
    refine .inl (hd.wp ?_)
    rintro v W' ⟨e1, hv, hb'⟩
    rw [e1]
    refine ih _ _ _ ⟨by simp [hs], hb.trans (hb'.more fun k hk => ⟨i, hk⟩), ?_, ?_, _, rfl, ?_⟩ hcnt
    · intro j k hk hlj
      have hji : j ≠ i := fun e => by subst e; rw [set_at hL] at hlj; cases hlj
      rw [set_ne (Ne.symm hji)] at hlj
      have h1 := hown k ⟨j, hk⟩
      have h2 := hb.size
      rw [hb'.block k (by omega) (fun hk2 => hji (own_inj hnd hk hk2))]
      exact hol j k hk hlj
    · intro j i' hj hd2
      by_cases hji : i = j
      · subst hji
        unfold depOn at hd2
        rw [ho] at hd2
        simp only [Option.map_some, Option.getD_some, List.any_eq_true, Bool.and_eq_true, beq_iff_eq] at hd2
        obtain ⟨e, he, hbd, rfl⟩ := hd2
        have h1 := hm.2.2 o ho e he hbd
        by_cases h2 : i = e.on
        · rw [← h2]; exact set_at hL
        · rw [set_ne h2]
          by_cases h : e.on < L.size
          · simpa [Array.getD, h] using h1
          · simp [Array.getD, h] at h1
      · rw [set_ne hji] at hj
        have h1 := hcl j i' hj hd2
        by_cases h2 : i = i'
        · rw [← h2]; exact set_at hL
        · rw [set_ne h2]; exact h1
    intro j hj hlj
    by_cases hji : j = i
    · subst hji; rw [if_pos rfl]; exact hv
    · rw [if_neg hji]
      rw [set_ne (Ne.symm hji)] at hlj
      exact (isAt Vs j).up _ _ _ _ (hu j hj hlj) hb' (fun k hk => ⟨hown k ⟨i, hk⟩, fun hk2 => hji (own_inj hnd hk2 hk)⟩)
theorem wp_region_flow2 {id : Nat} {a : Act} (mk : (Nat → Value) → Act) (Vs : List (Is base))
    (hm : Tryz.prog.follows .mixedOrders = true)
    (hlow : ((List.range ops.size).all fun i => ((ops[i]?).map fun o => o.after.toList.all fun e => !Region.binds .any e || decide (e.on < i)).getD true) = true)
    (hgd : ops.toList.all (fun o => o.guard.isNone) = true) (L : List Nat) (hL : Vs.filterMap (·.own) = L) (hbw : base ≤ w.heap.size) (hown : ∀ k ∈ L, k < base) (hnd : L.Nodup)
    (ha : ∃ u, a = mk u)
    (hstep : ∀ i o, ops[i]? = some o → ∀ u W, Fr (fun k => k ∈ L) w W → (∀ j k, (isAt Vs j).own = some k → (j = i ∨ depOn ops j i = true) → W.heap[k]? = w.heap[k]?) → (∀ j, depOn ops i j = true → (isAt Vs j).p (u j) W) → Step1 mk Vs i o u W)
    (hend : ∀ u W, Fr (fun k => k ∈ L) w W → (∀ i, i < ops.size → (isAt Vs i).p (u i) W) → Q .normal (mk u) W) : (Code.region id ops true).wp Tryz.prog Q a w := by
  subst hL
  refine wp_region_any hm (wpAny_flow (w := w) mk Vs rfl hlow hgd hbw (fun k hk => hown k (ownS_mem hk)) hnd (fun i o ho u W hf => hstep i o ho u W (hf.more fun _ => ownS_mem)) (fun u W hf => hend u W (hf.more fun _ => ownS_mem)) _ _ _ _ ⟨by simp, .of_below (Below.refl w.heap.size w).drew, fun _ _ _ _ => rfl, ?_, ?_⟩ ?_)
  · intro j i hj
    by_cases h : j < ops.size <;> simp [Array.getD, h] at hj
  · obtain ⟨u, rfl⟩ := ha
    exact ⟨u, rfl, fun i hi h => by simp [Array.getD, hi] at h⟩
  · simp
theorem wp_region_flow {id : Nat} {a : Act} (mk : (Nat → Value) → Act) (Vs : List (Is base))
    (hm : Tryz.prog.follows .mixedOrders = true)
    (hlow : ((List.range ops.size).all fun i => ((ops[i]?).map fun o => o.after.toList.all fun e => !Region.binds .any e || decide (e.on < i)).getD true) = true)
    (hgd : ops.toList.all (fun o => o.guard.isNone) = true) (L : List Nat) (hL : Vs.filterMap (·.own) = L) (hbw : base ≤ w.heap.size) (hown : ∀ k ∈ L, k < base) (hnd : L.Nodup)
    (ha : ∃ u, a = mk u)
    (hstep : ∀ i o, ops[i]? = some o → ∀ u W, Fr (fun k => k ∈ L) w W → (∀ k, (isAt Vs i).own = some k → W.heap[k]? = w.heap[k]?) → (∀ j, depOn ops i j = true → (isAt Vs j).p (u j) W) → Step1 mk Vs i o u W)
    (hend : ∀ u W, Fr (fun k => k ∈ L) w W → (∀ i, i < ops.size → (isAt Vs i).p (u i) W) → Q .normal (mk u) W) : (Code.region id ops true).wp Tryz.prog Q a w :=
  wp_region_flow2 mk Vs hm hlow hgd L hL hbw hown hnd ha (fun i o ho u W hf hold hdep => hstep i o ho u W hf (fun k hk => hold i k hk (.inl rfl)) hdep) hend
structure LastInv {base : Nat} (mk : (Nat → Value) → Act) (Vs : List (Is base)) (ops : Array Oper) (n : Nat) (w : World) (L : Array Bool) (a : Act) (W : World) : Prop where
  sz : L.size = ops.size
  fr : Fr (OwnS Vs) w W
  old : ∀ i k, (isAt Vs i).own = some k → L.getD i false = false → W.heap[k]? = w.heap[k]?
  lst : L.getD n false = false
  act : ∃ u, a = mk u ∧ ∀ i, i < n → L.getD i false = true → (isAt Vs i).p (u i) W
theorem wpAny_last {md : Region.Mode} {n : Nat} (mk : (Nat → Value) → Act) (Vs : List (Is base)) (hmd : md = .any) (hn : ops.size = n + 1)
    (hlow : ((List.range ops.size).all fun i => ((ops[i]?).map fun o => o.after.toList.all fun e => !Region.binds .any e || decide (e.on < i)).getD true) = true)
    (hlast : ((List.range n).all fun i => depOn ops n i) = true)
    (hgd : ops.toList.all (fun o => o.guard.isNone) = true) (hbw : base ≤ w.heap.size) (hown : ∀ k, OwnS Vs k → k < base) (hnd : (Vs.filterMap (·.own)).Nodup)
    (hstep : ∀ i o, i < n → ops[i]? = some o → ∀ u W, Fr (OwnS Vs) w W → (∀ k, (isAt Vs i).own = some k → W.heap[k]? = w.heap[k]?) → (∀ j, depOn ops i j = true → (isAt Vs j).p (u j) W) → Step1 mk Vs i o u W)
    (hend : ∀ o, ops[n]? = some o → ∀ u W, Fr (OwnS Vs) w W → (∀ i, i < n → (isAt Vs i).p (u i) W) → Does o (mk u) W (fun v W' => Q .normal ((mk u).put o.dst v) W')) :
    ∀ fuel L a W, LastInv mk Vs ops n w L a W → L.toList.count false ≤ fuel → wpAny Tryz.prog md ops Q fuel L a W := by
  subst hmd
  have hnr : ∀ (L : Array Bool), L.size = ops.size → Region.ready .any ops L = [] → L.getD n false = true := fun L hs hr => ready_all hr hs hlow n (by omega)
  have hall : ∀ (L : Array Bool), (∀ i, i < ops.size → L.getD i false = true) → L.size = ops.size → Region.ready .any ops L = [] := fun L hL hs => by
    cases hr : Region.ready .any ops L with
    | nil => rfl
    | cons i r =>
      have hm := ready_mem (md := .any) (ops := ops) (L := L) (i := i) (by rw [hr]; exact List.mem_cons_self ..)
      have h1 := hL i hm.1
      have h2 := hm.2.1
      have h3 : i < L.size := by have := hm.1; omega
      simp [Array.getD, h3] at h1 h2
      rw [h1] at h2; cases h2
  intro fuel
  induction fuel with
  | zero =>
    intro L a W hI hc
    exfalso
    have hL : n < L.size := by have := hI.sz; omega
    have h4 : L.toList.count false = 0 := by omega
    rw [List.count_eq_zero] at h4
    have h3 : L[n] = false := by simpa [Array.getD, hL] using hI.lst
    exact h4 (by rw [← h3]; exact Array.mem_toList_iff.2 (Array.getElem_mem hL))
  | succ fuel ih =>
    intro L a W hI hc
    refine ⟨fun hr => (by have := hnr L hI.sz hr; rw [hI.lst] at this; cases this), fun i hi => ?_⟩
    have hm := ready_mem hi
    have hL : i < L.size := by have := hI.sz; omega
    have h3 : L[i] = false := by simpa [Array.getD, hL] using hm.2.1
    have hcnt : (L.setIfInBounds i true).toList.count false ≤ fuel := by
      have h5 : (L.setIfInBounds i true).toList = L.toList.set i true := by simp
      rw [h5, List.count_set (by simpa using hL)]
      have h6 : L.toList[i]'(by simpa using hL) = false := by simpa using h3
      rw [h6]
      have h7 : 0 < L.toList.count false := List.count_pos_iff.2 (by rw [← h3]; exact Array.mem_toList_iff.2 (Array.getElem_mem hL))
      simp
      simp at hc h7
      omega
    obtain ⟨hs, hb, hol, hls, u, rfl, hu⟩ := hI
    obtain ⟨o, ho⟩ : ∃ o, ops[i]? = some o := ⟨_, Array.getElem?_eq_getElem hm.1⟩
    have hg : o.guard = none := by
      have := List.all_eq_true.1 hgd o (Array.mem_toList_iff.2 (Array.mem_of_getElem? ho))
      simpa using this
    have hdone : ∀ j, depOn ops i j = true → L.getD j false = true := by
      intro j hj
      unfold depOn at hj
      rw [ho] at hj
      simp only [Option.map_some, Option.getD_some, List.any_eq_true, Bool.and_eq_true, beq_iff_eq] at hj
      obtain ⟨e, he, hbd, rfl⟩ := hj
      exact hm.2.2 o ho e he hbd
    have hlt : ∀ j, depOn ops i j = true → j < i := by
      intro j hj
      unfold depOn at hj
      rw [ho] at hj
      simp only [Option.map_some, Option.getD_some, List.any_eq_true, Bool.and_eq_true, beq_iff_eq] at hj
      obtain ⟨e, he, hbd, rfl⟩ := hj
      have h1 := List.all_eq_true.1 hlow i (List.mem_range.2 hm.1)
      rw [ho] at h1
      simp only [Option.map_some, Option.getD_some, List.all_eq_true] at h1
      have h2 := h1 e he
      rw [hbd] at h2
      simpa using h2
    unfold wpOp
    rw [ho]
    simp only
    rw [if_pos (by simp [Region.wanted, hg])]
    by_cases hin : i = n
    · subst hin
      have hd := hend o ho u W hb (fun j hj => hu j hj (hdone j (List.all_eq_true.1 hlast j (List.mem_range.2 hj))))
      refine .inl (hd.wp ?_)
      intro v W' hQ
      have hallt : ∀ j, j < ops.size → (L.setIfInBounds i true).getD j false = true := fun j hj => by
        by_cases h : i = j
        · subst h; exact set_at hL
        · rw [set_ne h]; exact hdone j (List.all_eq_true.1 hlast j (List.mem_range.2 (by omega)))
      have hr := hall (L.setIfInBounds i true) hallt (by simp [hs])
      cases fuel with
      | zero => exact ⟨hr, hQ⟩
      | succ fuel => exact ⟨fun _ => hQ, fun j hj => by rw [hr] at hj; cases hj⟩
    · have hi2 : i < n := by have := hm.1; omega
      have hd := hstep i o hi2 ho u W hb (fun k hk => hol i k hk (by simpa [Array.getD, hL] using h3)) (fun j hj => hu j (by have := hlt j hj; omega) (hdone j hj))
      refine .inl (hd.wp ?_)
      rintro v W' ⟨e1, hv, hb'⟩
      rw [e1]
      refine ih _ _ _ ⟨by simp [hs], hb.trans (hb'.more fun k hk => ⟨i, hk⟩), ?_, by rw [set_ne hin]; exact hls, _, rfl, ?_⟩ hcnt
      · intro j k hk hlj
        have hji : j ≠ i := fun e => by subst e; rw [set_at hL] at hlj; cases hlj
        rw [set_ne (Ne.symm hji)] at hlj
        have h1 := hown k ⟨j, hk⟩
        have h2 := hb.size
        rw [hb'.block k (by omega) (fun hk2 => hji (own_inj hnd hk hk2))]
        exact hol j k hk hlj
      · intro j hj hlj
        by_cases hji : j = i
        · subst hji; rw [if_pos rfl]; exact hv
        · rw [if_neg hji]
          rw [set_ne (Ne.symm hji)] at hlj
          exact (isAt Vs j).up _ _ _ _ (hu j hj hlj) hb' (fun k hk => ⟨hown k ⟨i, hk⟩, fun hk2 => hji (own_inj hnd hk2 hk)⟩)
theorem wp_region_last {id : Nat} {a : Act} (n : Nat) (mk : (Nat → Value) → Act) (Vs : List (Is base))
    (hm : Tryz.prog.follows .mixedOrders = true) (hn : ops.size = n + 1)
    (hlow : ((List.range ops.size).all fun i => ((ops[i]?).map fun o => o.after.toList.all fun e => !Region.binds .any e || decide (e.on < i)).getD true) = true)
    (hlast : ((List.range n).all fun i => depOn ops n i) = true)
    (hgd : ops.toList.all (fun o => o.guard.isNone) = true) (L : List Nat) (hL : Vs.filterMap (·.own) = L) (hbw : base ≤ w.heap.size) (hown : ∀ k ∈ L, k < base) (hnd : L.Nodup)
    (ha : ∃ u, a = mk u)
    (hstep : ∀ i o, i < n → ops[i]? = some o → ∀ u W, Fr (fun k => k ∈ L) w W → (∀ k, (isAt Vs i).own = some k → W.heap[k]? = w.heap[k]?) → (∀ j, depOn ops i j = true → (isAt Vs j).p (u j) W) → Step1 mk Vs i o u W)
    (hend : ∀ o, ops[n]? = some o → ∀ u W, Fr (fun k => k ∈ L) w W → (∀ i, i < n → (isAt Vs i).p (u i) W) → Does o (mk u) W (fun v W' => Q .normal ((mk u).put o.dst v) W')) : (Code.region id ops true).wp Tryz.prog Q a w := by
  subst hL
  refine wp_region_any hm (wpAny_last (w := w) mk Vs rfl hn hlow hlast hgd hbw (fun k hk => hown k (ownS_mem hk)) hnd (fun i o hi ho u W hf => hstep i o hi ho u W (hf.more fun _ => ownS_mem)) (fun o ho u W hf => hend o ho u W (hf.more fun _ => ownS_mem)) _ _ _ _ ⟨by simp, .of_below (Below.refl w.heap.size w).drew, fun _ _ _ _ => rfl, by simp [Array.getD, hn], ?_⟩ ?_)
  · obtain ⟨u, rfl⟩ := ha
    exact ⟨u, rfl, fun i hi h => by have : i < ops.size := by omega
                                    simp [Array.getD, this] at h⟩
  · simp
end
end Go.Proofs.YtpfplojkiloldaaGreatDoor
