/- Plain: runs in the one way. -/
namespace Rp
abbrev Run := Int × Int
def Most : Int := 4294967295
def clip (r : Run) : Run := (max r.1 0, min r.2 Most)
/-- numbers of a list -/
def Mem (l : List Run) (n : Int) : Prop := ∃ r ∈ l, r.1 ≤ n ∧ n ≤ r.2
/-- the one way, all beyond a bound -/
def Canon : Int → List Run → Prop
  | _, [] => True
  | lo, r :: l => lo ≤ r.1 ∧ r.1 ≤ r.2 ∧ r.2 ≤ Most ∧ Canon (r.2 + 2) l

theorem Canon.mono {lo lo' : Int} {l : List Run} (h : Canon lo l) (hl : lo' ≤ lo) : Canon lo' l := by
  cases l with
  | nil => trivial
  | cons r l => exact ⟨by have := h.1; omega, h.2⟩

theorem mem_nil (n : Int) : ¬ Mem [] n := by rintro ⟨r, h, _⟩; cases h
theorem mem_cons {r : Run} {l : List Run} {n : Int} : Mem (r :: l) n ↔ (r.1 ≤ n ∧ n ≤ r.2) ∨ Mem l n := by
  unfold Mem
  constructor
  · rintro ⟨s, hs, h⟩
    rcases List.mem_cons.1 hs with rfl | hs
    · exact .inl h
    · exact .inr ⟨s, hs, h⟩
  · rintro (h | ⟨s, hs, h⟩)
    · exact ⟨r, List.mem_cons_self, h⟩
    · exact ⟨s, List.mem_cons_of_mem _ hs, h⟩
theorem mem_append {l m : List Run} {n : Int} : Mem (l ++ m) n ↔ Mem l n ∨ Mem m n := by
  induction l with
  | nil => simp [mem_nil]
  | cons r l ih => rw [List.cons_append, mem_cons, mem_cons, ih, or_assoc]

theorem Canon.ge {lo : Int} {l : List Run} (h : Canon lo l) {n : Int} (hm : Mem l n) : lo ≤ n := by
  induction l generalizing lo with
  | nil => exact absurd hm (mem_nil n)
  | cons r l ih =>
    rcases mem_cons.1 hm with h1 | h1
    · have := h.1; omega
    · have := ih h.2.2.2 h1; have := h.1; have := h.2.1; omega
theorem Canon.le {lo : Int} {l : List Run} (h : Canon lo l) {n : Int} (hm : Mem l n) : n ≤ Most := by
  induction l generalizing lo with
  | nil => exact absurd hm (mem_nil n)
  | cons r l ih =>
    rcases mem_cons.1 hm with h1 | h1
    · have := h.2.2.1; omega
    · exact ih h.2.2.2 h1

/-- two lists in the one way with the same numbers are one -/
theorem canon_unique : ∀ (a b : List Run) (lo lo' : Int), Canon lo a → Canon lo' b → (∀ n, Mem a n ↔ Mem b n) → a = b
  | [], [], _, _, _, _, _ => rfl
  | [], s :: b, _, _, _, hb, h => absurd ((h s.1).2 (mem_cons.2 (.inl ⟨Int.le_refl _, hb.2.1⟩))) (mem_nil _)
  | r :: a, [], _, _, ha, _, h => absurd ((h r.1).1 (mem_cons.2 (.inl ⟨Int.le_refl _, ha.2.1⟩))) (mem_nil _)
  | (f, t) :: a, (f', t') :: b, lo, lo', ha, hb, h => by
    obtain ⟨_, h1, _, ha'⟩ := ha
    obtain ⟨_, h2, _, hb'⟩ := hb
    simp only at h1 h2 ha' hb'
    have e1 : f = f' := by
      have m1 := (h f).1 (mem_cons.2 (.inl ⟨Int.le_refl _, h1⟩))
      have m2 := (h f').2 (mem_cons.2 (.inl ⟨Int.le_refl _, h2⟩))
      rcases mem_cons.1 m1 with m1 | m1 <;> rcases mem_cons.1 m2 with m2 | m2
      · simp only at m1 m2; omega
      · have := ha'.ge m2; simp only at m1; omega
      · have := hb'.ge m1; simp only at m2; omega
      · have := ha'.ge m2; have := hb'.ge m1; omega
    subst e1
    have e2 : t = t' := by
      rcases Int.lt_trichotomy t t' with hlt | heq | hlt
      · have m := (h (t + 1)).2 (mem_cons.2 (.inl ⟨by simp only; omega, by simp only; omega⟩))
        rcases mem_cons.1 m with m | m
        · simp only at m; omega
        · have := ha'.ge m; omega
      · exact heq
      · have m := (h (t' + 1)).1 (mem_cons.2 (.inl ⟨by simp only; omega, by simp only; omega⟩))
        rcases mem_cons.1 m with m | m
        · simp only at m; omega
        · have := hb'.ge m; omega
    subst e2
    rw [canon_unique a b _ _ ha' hb' fun n => ?_]
    constructor
    · intro m
      have hn := ha'.ge m
      rcases mem_cons.1 ((h n).1 (mem_cons.2 (.inr m))) with m' | m'
      · simp only at m'; omega
      · exact m'
    · intro m
      have hn := hb'.ge m
      rcases mem_cons.1 ((h n).2 (mem_cons.2 (.inr m))) with m' | m'
      · simp only at m'; omega
      · exact m'

/-! the program's way -/
def kept (l : List Run) : List Run := (l.map clip).filter fun r => decide (r.1 ≤ r.2)
/-- one run more in a list that is put together -/
def push (out : List Run) (r : Run) : List Run :=
  match out.getLast? with
  | none => [r]
  | some y => if r.1 ≤ y.2 + 1 then out.dropLast ++ [(y.1, max y.2 r.2)] else out ++ [r]
def merged (l : List Run) : List Run := l.foldl push []

/-- put together: in the one way, seen from its end -/
def Up (out : List Run) : Prop := Canon 0 out

theorem canon_append {a b : List Run} {lo : Int} : Canon lo (a ++ b) ↔ Canon lo a ∧ Canon (match a.getLast? with | none => lo | some y => y.2 + 2) b := by
  induction a generalizing lo with
  | nil => simp [Canon]
  | cons r a ih =>
    rw [List.cons_append]
    show (lo ≤ r.1 ∧ r.1 ≤ r.2 ∧ r.2 ≤ Most ∧ Canon (r.2 + 2) (a ++ b)) ↔ (lo ≤ r.1 ∧ r.1 ≤ r.2 ∧ r.2 ≤ Most ∧ Canon (r.2 + 2) a) ∧ _
    rw [ih]
    have e : ((r :: a).getLast?) = some (a.getLast?.getD r) := by rw [List.getLast?_cons]
    rw [e]
    rcases h : a.getLast? with _ | y
    · simp [and_assoc]
    · simp [and_assoc]

theorem snoc_of_getLast? {l : List Run} {y : Run} (h : l.getLast? = some y) : l = l.dropLast ++ [y] := by
  have hne : l ≠ [] := by rintro rfl; simp at h
  have := List.dropLast_concat_getLast hne
  rw [List.getLast?_eq_some_getLast hne] at h
  injection h with h
  rw [h] at this
  exact this.symm

/-- what is put in last begins with no lesser number -/
def LastLe (out : List Run) (n : Int) : Prop := ∀ y, out.getLast? = some y → y.1 ≤ n

theorem push_up {out : List Run} {r : Run} (h : Canon 0 out) (hl : LastLe out r.1) (h0 : 0 ≤ r.1) (h1 : r.1 ≤ r.2) (h2 : r.2 ≤ Most) :
    Canon 0 (push out r) ∧ LastLe (push out r) r.1 ∧ ∀ n, Mem (push out r) n ↔ Mem out n ∨ (r.1 ≤ n ∧ n ≤ r.2) := by
  unfold push
  rcases hg : out.getLast? with _ | y
  · have hn : out = [] := by simpa using hg
    subst hn
    refine ⟨⟨h0, h1, h2, trivial⟩, ?_, fun n => ?_⟩
    · intro y hy; simp at hy; subst hy; exact Int.le_refl _
    · simp [mem_cons, mem_nil]
  · have hs := snoc_of_getLast? hg
    have hly := hl y hg
    have hc : Canon 0 (out.dropLast ++ [y]) := by rw [← hs]; exact h
    obtain ⟨hd, hy1, hy2, hy3, _⟩ := canon_append.1 hc
    simp only
    split
    · rename_i hle
      refine ⟨canon_append.2 ⟨hd, hy1, ?_, ?_, trivial⟩, ?_, fun n => ?_⟩
      · simp only; omega
      · simp only; omega
      · intro z hz; simp at hz; subst hz; exact hly
      · have hm : Mem out n ↔ Mem (out.dropLast ++ [y]) n := by rw [← hs]
        rw [hm, mem_append, mem_append, mem_cons, mem_cons]
        have := mem_nil n
        simp only [this, or_false]
        constructor
        · rintro (h | h)
          · exact .inl (.inl h)
          · by_cases hh : n ≤ y.2
            · exact .inl (.inr ⟨h.1, hh⟩)
            · exact .inr ⟨by omega, by omega⟩
        · rintro ((h | h) | h)
          · exact .inl h
          · exact .inr ⟨h.1, by omega⟩
          · exact .inr ⟨by omega, by omega⟩
    · rename_i hle
      refine ⟨canon_append.2 ⟨h, ?_⟩, ?_, fun n => ?_⟩
      · rw [hg]; exact ⟨by simp only; omega, h1, h2, trivial⟩
      · intro z hz; simp at hz; subst hz; exact Int.le_refl _
      · rw [mem_append, mem_cons]; have := mem_nil n; simp only [this, or_false]

theorem merged_from (l : List Run) : ∀ (out : List Run), Canon 0 out → (∀ r ∈ l, LastLe out r.1) → l.Pairwise (fun a b => a.1 ≤ b.1) →
    (∀ r ∈ l, 0 ≤ r.1 ∧ r.1 ≤ r.2 ∧ r.2 ≤ Most) → Canon 0 (l.foldl push out) ∧ ∀ n, Mem (l.foldl push out) n ↔ Mem out n ∨ Mem l n := by
  induction l with
  | nil => intro out h _ _ _; exact ⟨h, fun n => by simp [mem_nil]⟩
  | cons r l ih =>
    intro out h hl hp hr
    obtain ⟨hp1, hp2⟩ := List.pairwise_cons.1 hp
    obtain ⟨h0, h1, h2⟩ := hr r List.mem_cons_self
    obtain ⟨c, ll, m⟩ := push_up h (hl r List.mem_cons_self) h0 h1 h2
    obtain ⟨c2, m2⟩ := ih (push out r) c (fun s hs y hy => Int.le_trans (ll y hy) (hp1 s hs)) hp2 (fun s hs => hr s (List.mem_cons_of_mem _ hs))
    refine ⟨c2, fun n => ?_⟩
    rw [List.foldl_cons, m2, m, mem_cons, or_assoc]

theorem kept_ok {l : List Run} : ∀ r ∈ kept l, 0 ≤ r.1 ∧ r.1 ≤ r.2 ∧ r.2 ≤ Most := by
  intro r hr
  unfold kept at hr
  obtain ⟨h1, h2⟩ := List.mem_filter.1 hr
  obtain ⟨s, _, rfl⟩ := List.mem_map.1 h1
  have h2 : (clip s).1 ≤ (clip s).2 := of_decide_eq_true h2
  refine ⟨?_, h2, ?_⟩ <;> simp only [clip] <;> omega
theorem mem_kept {l : List Run} {n : Int} : Mem (kept l) n ↔ Mem l n ∧ 0 ≤ n ∧ n ≤ Most := by
  constructor
  · rintro ⟨r, hr, h⟩
    have := kept_ok r hr
    unfold kept at hr
    obtain ⟨h1, h2⟩ := List.mem_filter.1 hr
    obtain ⟨s, hs, rfl⟩ := List.mem_map.1 h1
    simp only [clip] at h this
    exact ⟨⟨s, hs, by omega, by omega⟩, by omega, by omega⟩
  · rintro ⟨⟨r, hr, h⟩, h0, hm⟩
    refine ⟨clip r, List.mem_filter.2 ⟨List.mem_map.2 ⟨r, hr, rfl⟩, ?_⟩, ?_⟩
    · simp only [clip]; exact decide_eq_true (by omega)
    · simp only [clip]; omega
theorem mem_perm {a b : List Run} (h : a.Perm b) (n : Int) : Mem a n ↔ Mem b n := by
  unfold Mem
  constructor
  · rintro ⟨r, hr, x⟩; exact ⟨r, h.mem_iff.1 hr, x⟩
  · rintro ⟨r, hr, x⟩; exact ⟨r, h.mem_iff.2 hr, x⟩

/-- the program's Norm: whatever order the sort gives -/
theorem sorted_merged {l s : List Run} (hp : s.Perm (kept l)) (hs : s.Pairwise (fun a b => a.1 ≤ b.1)) :
    Canon 0 (merged s) ∧ ∀ n, Mem (merged s) n ↔ Mem l n ∧ 0 ≤ n ∧ n ≤ Most := by
  obtain ⟨c, m⟩ := merged_from s [] trivial (fun r _ y hy => by simp at hy) hs (fun r hr => kept_ok r (hp.mem_iff.1 hr))
  refine ⟨c, fun n => ?_⟩
  have := m n
  unfold merged
  rw [this, mem_perm hp, mem_kept]
  simp [mem_nil]

/-! the document's way -/
/-- the loop of Put: what is out, the run, whether it is done -/
def putStep (st : List Run × Run × Bool) (y : Run) : List Run × Run × Bool :=
  if y.2 + 1 < st.2.1.1 then (st.1 ++ [y], st.2.1, st.2.2)
  else if st.2.1.2 + 1 < y.1 then (if st.2.2 then (st.1 ++ [y], st.2.1, true) else (st.1 ++ [st.2.1] ++ [y], st.2.1, true))
  else (st.1, (min st.2.1.1 y.1, max st.2.1.2 y.2), st.2.2)
def putEnd (st : List Run × Run × Bool) : List Run := if st.2.2 then st.1 else st.1 ++ [st.2.1]
def put (l : List Run) (x : Run) : List Run :=
  if (clip x).1 ≤ (clip x).2 then putEnd (l.foldl putStep ([], clip x, false)) else l
def norm (l : List Run) : List Run := l.foldl put []

/-- behind the run: all the rest is taken over -/
theorem put_done (l : List Run) : ∀ (out : List Run) (r : Run) (lo : Int), Canon lo l → r.2 + 1 < lo →
    l.foldl putStep (out, r, true) = (out ++ l, r, true) ∨ l.foldl putStep (out, r, true) = (out ++ l, r, true) := by
  induction l with
  | nil => intro out r lo _ _; simp
  | cons y l ih =>
    intro out r lo h hr
    have e : putStep (out, r, true) y = (out ++ [y], r, true) := by
      unfold putStep
      have := h.1
      by_cases h1 : y.2 + 1 < r.1
      · simp [h1]
      · simp only [h1, if_false]; rw [if_pos (by omega)]; simp
    rw [List.foldl_cons, e]
    have := ih (out ++ [y]) r (y.2 + 2) h.2.2.2 (by have := h.1; have := h.2.1; omega)
    simpa using this

theorem put_from (l : List Run) : ∀ (out : List Run) (r : Run) (lo : Int), Canon lo l → Canon 0 out → (∀ y, out.getLast? = some y → y.2 + 2 ≤ lo ∧ y.2 + 1 < r.1) → 0 ≤ lo →
    0 ≤ r.1 → r.1 ≤ r.2 → r.2 ≤ Most →
    Canon 0 (putEnd (l.foldl putStep (out, r, false))) ∧ ∀ n, Mem (putEnd (l.foldl putStep (out, r, false))) n ↔ Mem out n ∨ Mem l n ∨ (r.1 ≤ n ∧ n ≤ r.2) := by
  induction l with
  | nil =>
    intro out r lo _ ho hl _ h0 h1 h2
    simp only [List.foldl_nil, putEnd, Bool.false_eq_true, if_false]
    refine ⟨canon_append.2 ⟨ho, ?_⟩, fun n => ?_⟩
    · rcases hg : out.getLast? with _ | y
      · exact ⟨h0, h1, h2, trivial⟩
      · exact ⟨by have := (hl y hg).2; simp only; omega, h1, h2, trivial⟩
    · rw [mem_append, mem_cons]; simp [mem_nil]
  | cons y l ih =>
    intro out r lo h ho hl hlo h0 h1 h2
    obtain ⟨g1, g2, g3, g4⟩ := h
    rw [List.foldl_cons]
    by_cases c1 : y.2 + 1 < r.1
    · have e : putStep (out, r, false) y = (out ++ [y], r, false) := by unfold putStep; simp [c1]
      rw [e]
      have hc : Canon 0 (out ++ [y]) := canon_append.2 ⟨ho, by
        rcases hg : out.getLast? with _ | z
        · exact ⟨by simp only; omega, g2, g3, trivial⟩
        · exact ⟨by have := (hl z hg).1; simp only; omega, g2, g3, trivial⟩⟩
      obtain ⟨i1, i2⟩ := ih (out ++ [y]) r (y.2 + 2) g4 hc (fun z hz => by simp at hz; subst hz; exact ⟨Int.le_refl _, c1⟩) (by omega) h0 h1 h2
      refine ⟨i1, fun n => ?_⟩
      rw [i2, mem_append, mem_cons, mem_cons]
      simp only [mem_nil, or_false, or_assoc]
    · by_cases c2 : r.2 + 1 < y.1
      · have e : putStep (out, r, false) y = (out ++ [r] ++ [y], r, true) := by unfold putStep; simp [c1, c2]
        rw [e]
        rcases put_done l (out ++ [r] ++ [y]) r (y.2 + 2) g4 (by omega) with hd | hd <;>
        · rw [hd]
          simp only [putEnd, if_true]
          refine ⟨?_, fun n => ?_⟩
          · rw [List.append_assoc, List.append_assoc]
            refine canon_append.2 ⟨ho, ?_⟩
            refine ⟨?_, h1, h2, ?_, g2, g3, ?_⟩
            · rcases hg : out.getLast? with _ | z
              · exact h0
              · have := (hl z hg).2; show z.2 + 2 ≤ r.1; omega
            · show r.2 + 2 ≤ y.1; omega
            · simpa using g4
          · simp only [mem_append, mem_cons, mem_nil, or_false]
            constructor
            · rintro (((h | h) | h) | h)
              · exact .inl h
              · exact .inr (.inr h)
              · exact .inr (.inl (.inl h))
              · exact .inr (.inl (.inr h))
            · rintro (h | (h | h) | h)
              · exact .inl (.inl (.inl h))
              · exact .inl (.inr h)
              · exact .inr h
              · exact .inl (.inl (.inr h))
      · have e : putStep (out, r, false) y = (out, (min r.1 y.1, max r.2 y.2), false) := by unfold putStep; simp [c1, c2]
        rw [e]
        obtain ⟨i1, i2⟩ := ih out (min r.1 y.1, max r.2 y.2) (y.2 + 2) g4 ho (fun z hz => by have := hl z hz; simp only; omega) (by omega) (by simp only; omega) (by simp only; omega) (by simp only; omega)
        refine ⟨i1, fun n => ?_⟩
        rw [i2, mem_cons]
        simp only
        constructor
        · rintro (h | h | h)
          · exact .inl h
          · exact .inr (.inl (.inr h))
          · by_cases hh : r.1 ≤ n ∧ n ≤ r.2
            · exact .inr (.inr hh)
            · exact .inr (.inl (.inl (by omega)))
        · rintro (h | (h | h) | h)
          · exact .inl h
          · exact .inr (.inr (by omega))
          · exact .inr (.inl h)
          · exact .inr (.inr (by omega))

theorem put_ok {l : List Run} (x : Run) (h : Canon 0 l) : Canon 0 (put l x) ∧ ∀ n, Mem (put l x) n ↔ Mem l n ∨ (x.1 ≤ n ∧ n ≤ x.2 ∧ 0 ≤ n ∧ n ≤ Most) := by
  unfold put
  by_cases hc : (clip x).1 ≤ (clip x).2
  · rw [if_pos hc]
    obtain ⟨i1, i2⟩ := put_from l [] (clip x) 0 h trivial (fun y hy => by simp at hy) (Int.le_refl _) (by simp only [clip]; omega) hc (by simp only [clip]; omega)
    refine ⟨i1, fun n => ?_⟩
    rw [i2]
    simp only [mem_nil, false_or, clip]
    constructor
    · rintro (h | h)
      · exact .inl h
      · exact .inr (by omega)
    · rintro (h | h)
      · exact .inl h
      · exact .inr (by omega)
  · rw [if_neg hc]
    refine ⟨h, fun n => ⟨.inl, ?_⟩⟩
    rintro (h | h)
    · exact h
    · simp only [clip] at hc; omega

theorem norm_from (l : List Run) : ∀ (out : List Run), Canon 0 out → Canon 0 (l.foldl put out) ∧ ∀ n, Mem (l.foldl put out) n ↔ Mem out n ∨ (Mem l n ∧ 0 ≤ n ∧ n ≤ Most) := by
  induction l with
  | nil => intro out h; exact ⟨h, fun n => by simp [mem_nil]⟩
  | cons x l ih =>
    intro out h
    obtain ⟨c, m⟩ := put_ok x h
    obtain ⟨c2, m2⟩ := ih (put out x) c
    refine ⟨c2, fun n => ?_⟩
    rw [List.foldl_cons, m2, m, mem_cons]
    constructor
    · rintro ((h | h) | h)
      · exact .inl h
      · exact .inr ⟨.inl ⟨h.1, h.2.1⟩, h.2.2⟩
      · exact .inr ⟨.inr h.1, h.2⟩
    · rintro (h | ⟨h | h, h'⟩)
      · exact .inl (.inl h)
      · exact .inl (.inr ⟨h.1, h.2, h'⟩)
      · exact .inr ⟨h, h'⟩
theorem norm_ok (l : List Run) : Canon 0 (norm l) ∧ ∀ n, Mem (norm l) n ↔ Mem l n ∧ 0 ≤ n ∧ n ≤ Most := by
  obtain ⟨c, m⟩ := norm_from l [] trivial
  exact ⟨c, fun n => by unfold norm; rw [m]; simp [mem_nil]⟩

/-- both ways are one -/
theorem norm_eq {l s : List Run} (hp : s.Perm (kept l)) (hs : s.Pairwise (fun a b => a.1 ≤ b.1)) : merged s = norm l := by
  obtain ⟨c1, m1⟩ := sorted_merged hp hs
  obtain ⟨c2, m2⟩ := norm_ok l
  exact canon_unique _ _ _ _ c1 c2 fun n => by rw [m1, m2]

theorem putStep_len (st : List Run × Run × Bool) (y : Run) : (putStep st y).1.length ≤ st.1.length + 1 + (if st.2.2 then 0 else if (putStep st y).2.2 then 1 else 0) := by
  unfold putStep
  by_cases h1 : y.2 + 1 < st.2.1.1
  · simp [h1]
  · by_cases h2 : st.2.1.2 + 1 < y.1
    · by_cases h3 : st.2.2
      · simp [h1, h2, h3]
      · simp [h1, h2, h3]
    · simp [h1, h2]; omega
end Rp
