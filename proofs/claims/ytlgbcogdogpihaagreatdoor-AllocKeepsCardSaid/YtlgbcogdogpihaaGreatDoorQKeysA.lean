/- A change's map and the row of the pages taken: what AllocKeeps's rounds do. -/
import Derived.Test.YtlgbcogdogpihaaGreatDoorQWorks10
import Derived.Test.YtlgbcogdogpihaaGreatDoorQTaken
import Derived.Test.YtlgbcogdogpihaaGreatDoorQApartP
import Derived.Test.YtlgbcogdogpihaaGreatDoorQGa
import Derived.Test.YtlgbcogdogpihaaGreatDoorQFlushP
namespace Go.Proofs.YtlgbcogdogpihaaGreatDoor
open Go.RowKit Go.Shelf
/-- the map's keys are a row's numbers -/
structure KeysAre (D : DataW Value) (mine : List Int) : Prop where
  tidy : Maps.Tidy D
  has : ∀ x, Maps.has D (.int .i64 x) = decide (x ∈ mine)
  size : Maps.size D = mine.length
theorem KeysAre.nil_ : KeysAre (.map []) [] := ⟨Maps.tidy_empty, fun _ => rfl, rfl⟩
theorem KeysAre.put_ {D : DataW Value} {mine : List Int} (h : KeysAre D mine) {id : Int} (hid : id ∉ mine) (v : DataW Value) : KeysAre (D.put (.int .i64 id) v) (mine ++ [id]) := by
  refine ⟨h.tidy.put (by trivial) v, fun x => ?_, ?_⟩
  · rw [has_putI h.tidy.isMap, h.has]
    rw [Bool.eq_iff_iff]
    simp
    exact ⟨fun h => h.symm, fun h => h.symm⟩
  · rw [Maps.size_put h.tidy, h.has, decide_eq_false hid, if_neg (by simp), h.size]; simp
theorem filter_len : ∀ {l : List Int} {id : Int}, l.Nodup → id ∈ l → (l.filter fun x => x != id).length + 1 = l.length
  | [], _, _, h => by cases h
  | y :: l, id, hn, h => by
    obtain ⟨h1, h2⟩ := List.nodup_cons.1 hn
    rw [List.filter_cons]
    by_cases e : y = id
    · subst e
      rw [if_neg (by simp), Rp.filter_out h1, List.length_cons]
    · rw [if_pos (by simpa using e), List.length_cons, List.length_cons, filter_len h2 (by rcases List.mem_cons.1 h with h | h; exact absurd h.symm e; exact h)]
theorem KeysAre.drop_ {D : DataW Value} {mine : List Int} (h : KeysAre D mine) (hn : mine.Nodup) (id : Int) : KeysAre (dropD D id) (mine.filter fun x => x != id) := by
  unfold dropD
  rw [h.has]
  by_cases hid : id ∈ mine
  · rw [decide_eq_true hid, if_pos rfl]
    refine ⟨h.tidy.del _, fun x => ?_, ?_⟩
    · rw [has_delI, h.has, Bool.eq_iff_iff]
      simp [List.mem_filter]
      exact ⟨fun h => ⟨h.2, h.1⟩, fun h => ⟨h.2, h.1⟩⟩
    · have h1 := Maps.size_del (k := .int .i64 id) h.tidy
      rw [h.has, decide_eq_true hid, if_pos rfl, h.size] at h1
      have h2 := filter_len hn hid
      omega
  · rw [decide_eq_false hid, Rp.filter_out hid]
    exact h
theorem ap_drop {room p : Int} {fr used : List Run} {mine : List Int} {D : DataW Value} (h : Rp.Ap room fr used mine p) (hk : KeysAre D mine) (id : Int) : Rp.Ap room (dropF fr D id) used (mine.filter fun x => x != id) p := by
  unfold dropF
  rw [hk.has]
  by_cases hid : id ∈ mine
  · rw [decide_eq_true hid, if_pos rfl]; exact h.dropped hid
  · rw [decide_eq_false hid, Rp.filter_out hid]; exact h
theorem dropF_len (fr : List Run) (D : DataW Value) (x : Int) : (dropF fr D x).length ≤ fr.length + 1 := by
  unfold dropF
  split
  · simpa using union_len fr [(x, x)]
  · omega
theorem KeysAre.reput {D : DataW Value} {mine : List Int} (h : KeysAre D mine) {id : Int} (hid : id ∈ mine) (v : DataW Value) : KeysAre (D.put (.int .i64 id) v) mine := by
  refine ⟨h.tidy.put (by trivial) v, fun x => ?_, ?_⟩
  · rw [has_putI h.tidy.isMap, h.has]
    rw [Bool.eq_iff_iff]
    simp
    rintro rfl
    exact hid
  · rw [Maps.size_put h.tidy, h.has, decide_eq_true hid, if_pos rfl, h.size]
theorem keeps_alloc (t m f n k : Nat) (fr used : List Run) (mine : List Int) (p : Int) (D : DataW Value) (hl : fr.length ≤ 80000) (hk : k < maxLen) (h : Rp.Ap (max (n : Int) 2) fr used mine p) (hm : KeysAre D mine) :
    (∃ (id : Int) (fr1 : List Run) (p1 : Int) (D1 : DataW Value), D1 = D.put (.int .i64 id) (.held (content false 0 ⟨#[]⟩)) ∧
      (∀ w : World, Txn w t m f n fr p k D → Calls Tryz.prog 29 #[.pointer (some ⟨t, 0, none⟩)] w fun e w' => e = .returned (.tuple #[.int .i64 id, .int .i64 0]) ∧ Touch t m w w' ∧ Txn w' t m f n fr1 p1 (k + 1) D1) ∧
      (id ∉ mine ∧ Rp.has used id = false ∧ 2 ≤ id ∧ id < max (n : Int) 2) ∧ Rp.Ap (max (n : Int) 2) fr1 used (mine ++ [id]) p1 ∧ KeysAre D1 (mine ++ [id]) ∧ fr1.length ≤ fr.length + 5) ∨
    (∀ w : World, Txn w t m f n fr p k D → Calls Tryz.prog 29 #[.pointer (some ⟨t, 0, none⟩)] w fun e w' => e = .returned (.tuple #[.int .i64 0, .int .i64 2]) ∧ Touch t m w w' ∧ Txn w' t m f n fr p k D) := by
  have hp := h.pg
  have hA := fun (w : World) (hT : Txn w t m f n fr p k D) => talloc_any t m f n k fr p D hl hk (by omega) w hT
  cases hfi : firstR fr with
  | some id =>
    obtain ⟨h1, h2, h3, h4, h5⟩ := h.free (id := id) hfi
    have ha : allocV fr p (max (n : Int) 2) = some (id, Rp.minus fr [(id, id)], p) := by unfold allocV; rw [hfi]
    have hml := minus_len fr [(id, id)]
    rw [ha] at hA
    refine .inl ⟨id, _, p, _, rfl, fun w hT => (hA w hT).mono ?_, ⟨h1, h2, h3, by omega⟩, h5, hm.put_ h1 _, by simpa using hml⟩
    rintro e w' ⟨g1, g2, g3⟩
    exact ⟨g2, g1, g3⟩
  | none =>
    by_cases hfull : max (n : Int) 2 ≤ p
    · have ha : allocV fr p (max (n : Int) 2) = none := by unfold allocV; rw [hfi]; simp only; rw [if_pos hfull]
      rw [ha] at hA
      refine .inr fun w hT => (hA w hT).mono ?_
      rintro e w' ⟨g1, g2, g3⟩
      exact ⟨g2, g1, g3⟩
    · have ha : allocV fr p (max (n : Int) 2) = some (p, fr, p + 1) := by unfold allocV; rw [hfi]; simp only; rw [if_neg hfull]
      rw [ha] at hA
      obtain ⟨h1, h2, h3⟩ := h.fresh (by omega)
      refine .inl ⟨p, fr, p + 1, _, rfl, fun w hT => (hA w hT).mono ?_, ⟨h1, h2, by omega, by omega⟩, h3, hm.put_ h1 _, by omega⟩
      rintro e w' ⟨g1, g2, g3⟩
      exact ⟨g2, g1, g3⟩
/-- what was put in each page -/
def Conts (D : DataW Value) (q : Int) (ids : List Int) (puts : List Bs) : Prop := ids.length = puts.length ∧ ∀ (j : Nat) (h1 : j < ids.length) (h2 : j < puts.length) (z : DataW Value), D.atKey (.int .i64 ids[j]) z = .held (content true q ⟨puts[j].toArray⟩)
theorem Conts.nil_ (D : DataW Value) (q : Int) : Conts D q [] [] := ⟨rfl, fun j h => absurd h (by simp)⟩
theorem Conts.snoc_ {D D1 : DataW Value} {q id : Int} {ids : List Int} {puts : List Bs} (h : Conts D q ids puts) (hm : KeysAre D1 (ids ++ [id])) (hid : id ∉ ids) (v : DataW Value) (hD1 : D1 = D.put (.int .i64 id) v) (b : Bs) : Conts (D1.put (.int .i64 id) (.held (content true q ⟨b.toArray⟩))) q (ids ++ [id]) (puts ++ [b]) := by
  obtain ⟨hl, h⟩ := h
  refine ⟨by simp [hl], fun j h1 h2 z => ?_⟩
  by_cases hj : j < ids.length
  · have hne : ids[j] ≠ id := fun e => hid (e ▸ List.getElem_mem hj)
    have hne2 : (Lit.int .i64 ids[j]) ≠ .int .i64 id := fun e => by injection e with _ e; exact hne e
    rw [List.getElem_append_left hj, List.getElem_append_left (by omega), Maps.atKey_put_other hne2, hD1, Maps.atKey_put_other hne2]
    exact h j hj (by omega) z
  · have e : j = ids.length := by simp at h1; omega
    subst e
    rw [List.getElem_append_right (Nat.le_refl _), List.getElem_append_right (by omega)]
    simp only [hl, Nat.sub_self, List.getElem_cons_zero]
    exact Maps.atKey_put_same hm.tidy.isMap (by trivial) _ _
theorem ids_perm {w : World} {t m f n k : Nat} {free : List Run} {pages : Int} {D : DataW Value} (h : Txn w t m f n free pages k D) {ids : List Int} (hk : KeysAre D ids) (hn : ids.Nodup) : ids.Perm (intKeys D) :=
  CollectedI.perm (left := fun _ => false) ⟨hn, fun x => by rw [hk.has]; simp⟩ h.map keyedI Tryz.underlying3 (fun _ => rfl)
/-- the body that was put in a page -/
def bdOf (ids : List Int) (puts : List Bs) (x : Int) : Bs := puts.getD (ids.idxOf x) []
theorem bdOf_at {ids : List Int} {puts : List Bs} (hl : ids.length = puts.length) (hn : ids.Nodup) (j : Nat) (hj : j < ids.length) : bdOf ids puts ids[j] = puts[j] := by
  unfold bdOf
  rw [List.Nodup.idxOf_getElem hn j hj, List.getD_eq_getElem?_getD, List.getElem?_eq_getElem (by omega)]
  rfl
/-- a row whose cells are of another type lies as it lay -/
theorem keep_touch {t m f n k : Nat} {free : List Run} {pages : Int} {D : DataW Value} {w w' : World} {base e size c : Nat} {v : Value} {xs : List Value} (h : w.ownsRow base e size v c xs) (hT : Txn w t m f n free pages k D) (ht : Touch t m w w') (hne : e ≠ 117) : w'.ownsRow base e size v c xs := by
  refine ⟨h.1, ?_⟩
  rcases h.2 with h0 | ⟨g, cap, cur, h1, h2, h3, h4⟩
  · exact .inl h0
  · refine .inr ⟨g, cap, cur, h1, h2, ?_, h4⟩
    rw [ht.block g (Array.getElem?_eq_some_iff.1 h3).1 ?_ ?_]; exact h3
    · rintro rfl
      obtain ⟨_, hb, _⟩ := hT.self
      unfold Blk at hb
      rw [h3] at hb
      injection hb with hb; injection hb with _ hb; exact hne hb
    · rintro rfl
      obtain ⟨es, cl, hm, _⟩ := hT.map
      rw [h3] at hm; cases hm
theorem txn_row {t m f n k : Nat} {free : List Run} {pages : Int} {D : DataW Value} {w w' : World} (h : Txn w t m f n free pages k D) {base2 size2 c2 : Nat} {v2 : Value} {xs2 : List Value} (h2 : w.ownsRow base2 3 size2 v2 c2 xs2) (hg : w.grownBy w' v2.ownBlock) : Txn w' t m f n free pages k D :=
  h.keep hg fun r hr => by
    obtain ⟨cs, hcs⟩ := own_obj h2 hr
    refine ⟨_, hcs, ?_, ?_, ?_, ?_, ?_⟩
    all_goals intro cs' e
    · injection e with _ e; cases e
    · injection e with _ e; cases e
    · injection e with _ e; cases e
    · injection e with _ e; cases e
    · intro e; cases e
end Go.Proofs.YtlgbcogdogpihaaGreatDoor
