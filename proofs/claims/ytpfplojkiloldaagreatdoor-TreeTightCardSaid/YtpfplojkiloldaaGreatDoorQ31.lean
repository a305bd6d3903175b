/- Plain: how many pages a node becomes; bounds of what the tree's walks carry. -/
import Derived.Test.YtpfplojkiloldaaGreatDoorQ04
import Derived.Test.YtpfplojkiloldaaGreatDoorQ14
namespace Tp
open Nd En
def cnt (n : Node) : Nat := n.ents.length + n.kids.length
/-- pages side by side, no more than so many, with keys between -/
structure PB (p : Part) (L : Nat) : Prop where
  len : p.1.length ≤ L
  keys : p.2.length = p.1.length - 1
  ks : ∀ k ∈ p.2, k.size ≤ 16
theorem PB.nil (L : Nat) : PB ([], []) L := ⟨Nat.zero_le _, rfl, fun _ h => by cases h⟩
theorem PB.one (i : Int) {L : Nat} (h : 1 ≤ L) : PB ([i], []) L := ⟨h, rfl, fun _ h => by cases h⟩
theorem PB.mono {p : Part} {L L' : Nat} (h : PB p L) (hl : L ≤ L') : PB p L' := ⟨Nat.le_trans h.len hl, h.keys, h.ks⟩
theorem PB.join {p q : Part} {L L' : Nat} (h : PB p L) (h' : PB q L') (k : Str) (hk : k.size ≤ 16) (hp : 0 < p.1.length) (hq : 0 < q.1.length) : PB (p.1 ++ q.1, p.2 ++ [k] ++ q.2) (L + L') := by
  refine ⟨by rw [List.length_append]; have := h.len; have := h'.len; omega, ?_, fun x hx => ?_⟩
  · have := h.keys
    have := h'.keys
    simp only [List.length_append, List.length_cons, List.length_nil]
    omega
  · rcases List.mem_append.1 hx with hx | hx
    · rcases List.mem_append.1 hx with hx | hx
      · exact h.ks x hx
      · rw [List.mem_singleton] at hx; subst hx; exact hk
    · exact h'.ks x hx
theorem ksize_16 {l : List Str} (h : ∀ k ∈ l, k.size ≤ 16) : ksize l ≤ 21 * l.length := by
  induction l with
  | nil => simp [ksize]
  | cons x l ih =>
    rw [ksize_cons, List.length_cons]
    have := ih fun y hy => h y (List.mem_cons_of_mem _ hy)
    have := h x List.mem_cons_self
    unfold ksz; omega
theorem right_split {n : Node} {q : Node × Str × Node} (h : Nd.split n = some q) : Nd.right n = true ∧ ¬ (n.ents.length < 2 ∧ n.kids.length < 2) := by
  unfold Nd.split at h
  by_cases hc : Nd.right n = false ∨ (n.ents.length < 2 ∧ n.kids.length < 2)
  · rw [if_pos hc] at h; cases h
  · exact ⟨by cases hr : Nd.right n with
      | true => rfl
      | false => exact absurd (.inl hr) hc, fun h2 => hc (.inr h2)⟩
/-- what a node is cut into -/
theorem split_parts {n a b : Node} {k : Str} (h : Nd.split n = some (a, k, b)) : cnt a + cnt b = cnt n ∧ 0 < cnt a ∧ 0 < cnt b ∧ 0 < k.size ∧ k.size ≤ 16 ∧ a.ents.Sublist n.ents ∧ b.ents.Sublist n.ents ∧ a.keys.Sublist n.keys ∧ b.keys.Sublist n.keys := by
  obtain ⟨hr, h2⟩ := right_split h
  unfold Nd.split at h
  rw [if_neg (by rw [hr]; rintro (h | h); · cases h
                 · exact h2 h)] at h
  obtain ⟨leaf, ents, kids, keys⟩ := n
  cases leaf with
  | true =>
    obtain ⟨r1, rfl, rfl⟩ := right_leaf.1 hr
    simp only [if_true] at h
    have hm := ((En.right_iff ents).1 r1).1
    simp only [List.length_nil] at h2
    have hl := esize_len ents
    obtain ⟨j, g1, g2, g3, _, _⟩ := half_spec (esize ents) ents.length (by omega) ents 0 0 (by omega) (fun e => by subst e; simp at h2) (.inr (by omega)) (fun h => absurd h (by omega)) (fun _ => rfl) (fun x hx => esz_may (hm x hx))
    have hh : half ents = 0 + j := g2
    rw [hh] at h
    have hj : 0 + j < ents.length := by omega
    rw [List.getElem?_eq_getElem hj] at h
    simp only [Option.some.injEq, Prod.mk.injEq] at h
    obtain ⟨rfl, rfl, rfl⟩ := h
    have hmk := may_size (hm _ (List.getElem_mem hj))
    have hmm := hm _ (List.getElem_mem hj)
    unfold may at hmm
    simp only [Bool.and_eq_true, decide_eq_true_eq] at hmm
    refine ⟨?_, ?_, ?_, hmk.1, hmm.1.2, List.take_sublist _ _, List.drop_sublist _ _, List.Sublist.refl _, List.Sublist.refl _⟩
    · unfold cnt mkLeaf; simp only [List.length_take, List.length_drop, List.length_nil]; omega
    · unfold cnt mkLeaf; simp only [List.length_take, List.length_nil]; omega
    · unfold cnt mkLeaf; simp only [List.length_drop, List.length_nil]; omega
  | false =>
    obtain ⟨rfl, r2, r3, r4⟩ := right_inner.1 hr
    simp only [Bool.false_eq_true, if_false] at h
    simp only [List.length_nil] at h2
    have hj : kids.length / 2 - 1 < keys.length := by omega
    rw [List.getElem?_eq_getElem hj] at h
    simp only [Option.some.injEq, Prod.mk.injEq] at h
    obtain ⟨rfl, rfl, rfl⟩ := h
    have hmm := ((keys_iff keys).1 r4).1 _ (List.getElem_mem hj)
    have hmk := may_size (x := (keys[kids.length / 2 - 1], ⟨#[]⟩)) hmm
    unfold may at hmm
    simp only [Bool.and_eq_true, decide_eq_true_eq] at hmm
    refine ⟨?_, ?_, ?_, hmk.1, hmm.1.2, List.Sublist.refl _, List.Sublist.refl _, List.take_sublist _ _, List.drop_sublist _ _⟩
    · unfold cnt mkInner; simp only [List.length_take, List.length_drop, List.length_nil]; omega
    · unfold cnt mkInner; simp only [List.length_take, List.length_nil]; omega
    · unfold cnt mkInner; simp only [List.length_drop, List.length_nil]; omega
theorem esize_sub {a l : List Ent} (h : a.Sublist l) : esize a ≤ esize l := by
  induction h with
  | slnil => exact Nat.le_refl _
  | cons x _ ih => rw [esize_cons]; omega
  | cons_cons x _ ih => rw [esize_cons, esize_cons]; omega
theorem ksize_sub {a l : List Str} (h : a.Sublist l) : ksize a ≤ ksize l := by
  induction h with
  | slnil => exact Nat.le_refl _
  | cons x _ ih => rw [ksize_cons]; omega
  | cons_cons x _ ih => rw [ksize_cons, ksize_cons]; omega
theorem pStore_pos {room : Int} : ∀ (f : Nat) (σ : Pst) (id : Int) (n : Node) (p : Part), 0 < cnt n → (pStore room f σ id n).1 = .ok p → 0 < p.1.length
  | 0, _, _, _, _, _, h => by simp [pStore] at h
  | f + 1, σ, id, n, p, hn, h => by
    unfold pStore at h
    rw [if_neg (by unfold cnt at hn; omega)] at h
    cases hc : cut n with
    | none =>
      rw [hc] at h
      simp only at h
      cases hs : pSave room σ id n with
      | mk q σ1 =>
        rw [hs] at h
        cases q with
        | error e => simp at h
        | ok pg => simp only [Except.ok.injEq] at h; subst h; simp
    | some q =>
      obtain ⟨a, k, b⟩ := q
      rw [hc] at h
      simp only at h
      have hcs : Nd.split n = some (a, k, b) := by
        unfold cut at hc
        split at hc
        · exact hc
        · cases hc
      obtain ⟨_, ha, _⟩ := split_parts hcs
      cases hs : pStore room f σ id a with
      | mk q σ1 =>
        rw [hs] at h
        cases q with
        | error e => simp at h
        | ok one =>
          simp only at h
          have hp := pStore_pos f σ id a one ha (by rw [hs])
          cases hs2 : pStore room f σ1 0 b with
          | mk q2 σ2 =>
            rw [hs2] at h
            cases q2 with
            | error e => simp at h
            | ok two => simp only [Except.ok.injEq] at h; subst h; rw [List.length_append]; omega
/-- what becomes of the second part -/
def stJoin (one : Part) (key : Str) (q : Except Int Part × Pst) : Except Int Part × Pst := match q with
  | (.error e, σ2) => (.error e, σ2)
  | (.ok two, σ2) => (.ok (one.1 ++ two.1, one.2 ++ [key] ++ two.2), σ2)
/-- what becomes of the first part -/
def stRest (room : Int) (f : Nat) (b : Node) (key : Str) (q : Except Int Part × Pst) : Except Int Part × Pst := match q with
  | (.error e, σ1) => (.error e, σ1)
  | (.ok one, σ1) => stJoin one key (pStore room f σ1 0 b)
theorem stJoin_err {one : Part} {key : Str} {q : Except Int Part × Pst} {e : Int} (h : q.1 = .error e) : stJoin one key q = (.error e, q.2) := by
  obtain ⟨x, σ⟩ := q; simp only at h; subst h; rfl
theorem stJoin_ok {one two : Part} {key : Str} {q : Except Int Part × Pst} (h : q.1 = .ok two) : stJoin one key q = (.ok (one.1 ++ two.1, one.2 ++ [key] ++ two.2), q.2) := by
  obtain ⟨x, σ⟩ := q; simp only at h; subst h; rfl
theorem stRest_err {room : Int} {f : Nat} {b : Node} {key : Str} {q : Except Int Part × Pst} {e : Int} (h : q.1 = .error e) : stRest room f b key q = (.error e, q.2) := by
  obtain ⟨x, σ⟩ := q; simp only at h; subst h; rfl
theorem stRest_ok {room : Int} {f : Nat} {b : Node} {key : Str} {q : Except Int Part × Pst} {one : Part} (h : q.1 = .ok one) : stRest room f b key q = stJoin one key (pStore room f q.2 0 b) := by
  obtain ⟨x, σ⟩ := q; simp only at h; subst h; rfl
theorem pStore_cut {room : Int} {f : Nat} {σ : Pst} {id : Int} {n a b : Node} {key : Str} (h0 : ¬ n.ents.length + n.kids.length = 0) (hc : cut n = some (a, key, b)) : pStore room (f + 1) σ id n = stRest room f b key (pStore room f σ id a) := by
  rw [pStore, if_neg h0, hc]
  simp only
  cases pStore room f σ id a with
  | mk q σ1 =>
    cases q with
    | error e => rfl
    | ok one =>
      simp only
      show _ = stJoin one key (pStore room f σ1 0 b)
      cases pStore room f σ1 0 b with
      | mk q2 σ2 => cases q2 <;> rfl
/-- what saving makes of a node -/
def stSave (q : Except Int Int × Pst) : Except Int Part × Pst := match q with
  | (.error e, σ1) => (.error e, σ1)
  | (.ok p, σ1) => (.ok ([p], []), σ1)
theorem stSave_err {q : Except Int Int × Pst} {e : Int} (h : q.1 = .error e) : stSave q = (.error e, q.2) := by
  obtain ⟨x, σ⟩ := q; simp only at h; subst h; rfl
theorem stSave_ok {q : Except Int Int × Pst} {i : Int} (h : q.1 = .ok i) : stSave q = (.ok ([i], []), q.2) := by
  obtain ⟨x, σ⟩ := q; simp only at h; subst h; rfl
theorem pStore_whole {room : Int} {f : Nat} {σ : Pst} {id : Int} {n : Node} (h0 : ¬ n.ents.length + n.kids.length = 0) (hc : cut n = none) : pStore room (f + 1) σ id n = stSave (pSave room σ id n) := by
  rw [pStore, if_neg h0, hc]
  simp only
  cases pSave room σ id n with
  | mk q σ1 => cases q <;> rfl
theorem cut_some {n : Node} {q : Node × Str × Node} (h : cut n = some q) : 240 < size n ∧ Nd.split n = some q := by
  unfold cut at h
  split at h
  · exact ⟨by assumption, h⟩
  · cases h
theorem store_right {room : Int} {f : Nat} {σ : Pst} {id : Int} {n : Node} (h0 : ¬ n.ents.length + n.kids.length = 0) (h3 : (pStore room (f + 1) σ id n).1 ≠ .error 3) : Nd.right n = true := by
  cases hc : cut n with
  | some q => exact (right_split (cut_some hc).2).1
  | none =>
    rw [pStore_whole h0 hc] at h3
    cases hf : Nd.fits n with
    | true => exact (fits_iff.1 hf).1
    | false =>
      unfold pSave at h3
      rw [if_pos hf] at h3
      exact absurd rfl h3
theorem key_ne {k : Str} (h : 0 < k.size) : (k.toList == (⟨#[]⟩ : ByteArray).toList) = false ∧ k.toList.isEmpty = false ∧ k.toList ≠ [] := by
  have hs : k.toList ≠ [] := fun he => by
    have e : k.toList = k.data.toList := Go.Lib.toList_data k
    rw [e] at he
    have : k.size = 0 := by rw [← ByteArray.size_data, ← Array.length_toList, he]; rfl
    omega
  have e0 : (⟨#[]⟩ : ByteArray).toList = [] := by rw [Go.Lib.toList_data]
  exact ⟨by rw [e0, beq_eq_false_iff_ne]; exact hs, by cases hk : k.toList with
    | nil => exact absurd hk hs
    | cons a b => rfl, hs⟩
end Tp
