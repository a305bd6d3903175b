/- What AllocApart's rounds do: a page taken, or none left; one given back. -/
import Derived.Test.YtknlcfiphkbbaaaWorks10
import Derived.Test.YtknlcfiphkbbaaaTaken
import Derived.Test.YtknlcfiphkbbaaaApartP
import Derived.Test.YtknlcfiphkbbaaaOpenInts
import Derived.Test.YtknlcfiphkbbaaaLst
namespace Go.Proofs.Ytknlcfiphkbbaaa
open Go.RowKit Go.Shelf
def intE : Enc Int := ⟨fun x => [.int .i64 x], 1, fun _ => rfl, by decide, fun x u hu => by simp at hu; subst hu; rfl⟩
theorem eiInt : EI Try.prog 3 (.int .i64 0) 1 8 := EI.mk (by kernel_rfl)
theorem LS.int_at {w : World} {B : Nat} {A : Option Addr} {l : List Int} (h : LS intE w B A l) {k : Nat} (hk : k < l.length) : ∃ b off, A = some ⟨b, off, none⟩ ∧ b < B ∧ w.cell? ⟨b, off + k, none⟩ = some (.int .i64 l[k]) := by
  obtain ⟨b, off, rfl, hb, hc⟩ := h.at_ hk
  have := hc 0 (by decide)
  simp only [intE, Nat.mul_one, Nat.add_zero] at this
  exact ⟨b, off, rfl, hb, this⟩
/-- the map's keys are a row's numbers -/
structure KeysAre (D : DataW Value) (mine : List Int) : Prop where
  tidy : Maps.Tidy D
  has : ∀ x, Maps.has D (.int .i64 x) = decide (x ∈ mine)
  size : Maps.size D = mine.length
theorem KeysAre.nil_ : KeysAre (.map []) [] := ⟨Maps.tidy_empty, fun _ => rfl, rfl⟩
theorem KeysAre.put_ {D : DataW Value} {mine : List Int} (h : KeysAre D mine) {id : Int} (hid : id ∉ mine) (v : DataW Value) : KeysAre (D.put (.int .i64 id) v) (mine ++ [id]) := by
  refine ⟨h.tidy.put (by trivial) v, fun x => ?_, ?_⟩
  · rw [has_putI h.tidy.isMap, h.has]
    rw [Bool.eq_iff_iff]
    simp
    exact ⟨fun h => h.symm, fun h => h.symm⟩
  · rw [Maps.size_put h.tidy, h.has, decide_eq_false hid, if_neg (by simp), h.size]; simp
theorem filter_len : ∀ {l : List Int} {id : Int}, l.Nodup → id ∈ l → (l.filter fun x => x != id).length + 1 = l.length
  | [], _, _, h => by cases h
  | y :: l, id, hn, h => by
    obtain ⟨h1, h2⟩ := List.nodup_cons.1 hn
    rw [List.filter_cons]
    by_cases e : y = id
    · subst e
      rw [if_neg (by simp), Rp.filter_out h1, List.length_cons]
    · rw [if_pos (by simpa using e), List.length_cons, List.length_cons, filter_len h2 (by rcases List.mem_cons.1 h with h | h; exact absurd h.symm e; exact h)]
theorem KeysAre.drop_ {D : DataW Value} {mine : List Int} (h : KeysAre D mine) (hn : mine.Nodup) (id : Int) : KeysAre (dropD D id) (mine.filter fun x => x != id) := by
  unfold dropD
  rw [h.has]
  by_cases hid : id ∈ mine
  · rw [decide_eq_true hid, if_pos rfl]
    refine ⟨h.tidy.del _, fun x => ?_, ?_⟩
    · rw [has_delI, h.has, Bool.eq_iff_iff]
      simp [List.mem_filter]
      exact ⟨fun h => ⟨h.2, h.1⟩, fun h => ⟨h.2, h.1⟩⟩
    · have h1 := Maps.size_del (k := .int .i64 id) h.tidy
      rw [h.has, decide_eq_true hid, if_pos rfl, h.size] at h1
      have h2 := filter_len hn hid
      omega
  · rw [decide_eq_false hid, Rp.filter_out hid]
    exact h
theorem ap_drop {room p : Int} {fr used : List Run} {mine : List Int} {D : DataW Value} (h : Rp.Ap room fr used mine p) (hk : KeysAre D mine) (id : Int) : Rp.Ap room (dropF fr D id) used (mine.filter fun x => x != id) p := by
  unfold dropF
  rw [hk.has]
  by_cases hid : id ∈ mine
  · rw [decide_eq_true hid, if_pos rfl]; exact h.dropped hid
  · rw [decide_eq_false hid, Rp.filter_out hid]; exact h
theorem dropF_len (fr : List Run) (D : DataW Value) (x : Int) : (dropF fr D x).length ≤ fr.length + 1 := by
  unfold dropF
  split
  · simpa using union_len fr [(x, x)]
  · omega
theorem apart_alloc (t m f n k : Nat) (fr used : List Run) (mine : List Int) (p : Int) (D : DataW Value) (hl : fr.length ≤ 80000) (hk : k < maxLen) (h : Rp.Ap (max (n : Int) 2) fr used mine p) (hm : KeysAre D mine) :
    (∃ (id : Int) (fr1 : List Run) (p1 : Int) (k1 : Nat) (D1 : DataW Value),
      (∀ w : World, Txn w t m f n fr p k D → Calls Try.prog 21 #[.pointer (some ⟨t, 0, none⟩)] w fun e w' => e = .returned (.tuple #[.int .i64 id, .int .i64 0]) ∧ Touch t m w w' ∧ Txn w' t m f n fr1 p1 k1 D1) ∧
      (id ∉ mine ∧ Rp.has used id = false ∧ 2 ≤ id ∧ id < max (n : Int) 2) ∧ Rp.Ap (max (n : Int) 2) fr1 used (mine ++ [id]) p1 ∧ KeysAre D1 (mine ++ [id]) ∧ fr1.length ≤ fr.length + 5 ∧ k1 ≤ k + 1) ∨
    (Rp.count fr = 0 ∧ p = max (n : Int) 2 ∧
      ∀ w : World, Txn w t m f n fr p k D → Calls Try.prog 21 #[.pointer (some ⟨t, 0, none⟩)] w fun e w' => e = .returned (.tuple #[.int .i64 0, .int .i64 2]) ∧ Touch t m w w' ∧ Txn w' t m f n fr p k D) := by
  have hp := h.pg
  have hA := fun (w : World) (hT : Txn w t m f n fr p k D) => talloc_any t m f n k fr p D hl hk (by omega) w hT
  cases hfi : firstR fr with
  | some id =>
    obtain ⟨h1, h2, h3, h4, h5⟩ := h.free (id := id) hfi
    have ha : allocV fr p (max (n : Int) 2) = some (id, Rp.minus fr [(id, id)], p) := by unfold allocV; rw [hfi]
    have hml := minus_len fr [(id, id)]
    rw [ha] at hA
    refine .inl ⟨id, _, p, k + 1, D.put (.int .i64 id) (.held (content false 0 ⟨#[]⟩)), fun w hT => (hA w hT).mono ?_, ⟨h1, h2, h3, by omega⟩, h5, hm.put_ h1 _, by simpa using hml, by omega⟩
    rintro e w' ⟨g1, g2, g3⟩
    exact ⟨g2, g1, g3⟩
  | none =>
    by_cases hfull : max (n : Int) 2 ≤ p
    · have ha : allocV fr p (max (n : Int) 2) = none := by unfold allocV; rw [hfi]; simp only; rw [if_pos hfull]
      rw [ha] at hA
      refine .inr ⟨Rp.full_count hfi, by omega, fun w hT => (hA w hT).mono ?_⟩
      rintro e w' ⟨g1, g2, g3⟩
      exact ⟨g2, g1, g3⟩
    · have ha : allocV fr p (max (n : Int) 2) = some (p, fr, p + 1) := by unfold allocV; rw [hfi]; simp only; rw [if_neg hfull]
      rw [ha] at hA
      obtain ⟨h1, h2, h3⟩ := h.fresh (by omega)
      refine .inl ⟨p, fr, p + 1, k + 1, D.put (.int .i64 p) (.held (content false 0 ⟨#[]⟩)), fun w hT => (hA w hT).mono ?_, ⟨h1, h2, by omega, by omega⟩, h3, hm.put_ h1 _, by omega, by omega⟩
      rintro e w' ⟨g1, g2, g3⟩
      exact ⟨g2, g1, g3⟩
/-- a row whose cells are of another type lies as it lay -/
theorem keep_touch {t m f n k : Nat} {free : List Run} {pages : Int} {D : DataW Value} {w w' : World} {base e size c : Nat} {v : Value} {xs : List Value} (h : w.ownsRow base e size v c xs) (hT : Txn w t m f n free pages k D) (ht : Touch t m w w') (hne : e ≠ 73) : w'.ownsRow base e size v c xs := by
  refine ⟨h.1, ?_⟩
  rcases h.2 with h0 | ⟨g, cap, cur, h1, h2, h3, h4⟩
  · exact .inl h0
  · refine .inr ⟨g, cap, cur, h1, h2, ?_, h4⟩
    rw [ht.block g (Array.getElem?_eq_some_iff.1 h3).1 ?_ ?_]; exact h3
    · rintro rfl
      obtain ⟨_, hb, _⟩ := hT.self
      unfold Blk at hb
      rw [h3] at hb
      injection hb with hb; injection hb with _ hb; exact hne hb
    · rintro rfl
      obtain ⟨es, cl, hm, _⟩ := hT.map
      rw [h3] at hm; cases hm
theorem own_obj {w : World} {base e size c : Nat} {v : Value} {xs : List Value} (h : w.ownsRow base e size v c xs) {r : Nat} (hr : v.ownBlock = some r) : ∃ cs, w.heap[r]? = some (.cells cs e (0, 0)) := by
  rcases h.2 with ⟨rfl, _⟩ | ⟨g, cap, cur, rfl, _, h3, _⟩
  · simp [Value.ownBlock] at hr
  · simp [Value.ownBlock] at hr; subst hr; exact ⟨_, h3⟩
/-- a row lies as it lay where a row of another type has grown -/
theorem keep_row {w w' : World} {base e size c : Nat} {v : Value} {xs : List Value} (h : w.ownsRow base e size v c xs) {base2 e2 size2 c2 : Nat} {v2 : Value} {xs2 : List Value} (h2 : w.ownsRow base2 e2 size2 v2 c2 xs2) (hne : e ≠ e2) (hg : w.grownBy w' v2.ownBlock) : w'.ownsRow base e size v c xs := by
  refine ⟨h.1, ?_⟩
  rcases h.2 with h0 | ⟨g, cap, cur, g1, g2, g3, g4⟩
  · exact .inl h0
  · refine .inr ⟨g, cap, cur, g1, g2, ?_, g4⟩
    rw [hg.block g (Array.getElem?_eq_some_iff.1 g3).1 ?_]; exact g3
    intro hr
    obtain ⟨cs, hcs⟩ := own_obj h2 hr.symm
    rw [g3] at hcs
    injection hcs with hcs; injection hcs with _ hcs; exact hne hcs
theorem txn_row {t m f n k : Nat} {free : List Run} {pages : Int} {D : DataW Value} {w w' : World} (h : Txn w t m f n free pages k D) {base2 size2 c2 : Nat} {v2 : Value} {xs2 : List Value} (h2 : w.ownsRow base2 3 size2 v2 c2 xs2) (hg : w.grownBy w' v2.ownBlock) : Txn w' t m f n free pages k D :=
  h.keep hg fun r hr => by
    obtain ⟨cs, hcs⟩ := own_obj h2 hr
    refine ⟨_, hcs, ?_, ?_, ?_, ?_, ?_⟩
    all_goals intro cs' e
    · injection e with _ e; cases e
    · injection e with _ e; cases e
    · injection e with _ e; cases e
    · injection e with _ e; cases e
    · intro e; cases e
end Go.Proofs.Ytknlcfiphkbbaaa
