/- What Flush makes of a disk's pages: plain. -/
import Derived.Test.YtlgbcogdogpihaaGreatDoorQFlush
import Derived.Test.YtlgbcogdogpihaaGreatDoorQDkOk
import Derived.Test.YtlgbcogdogpihaaGreatDoorQFreshD
namespace Go.Proofs.YtlgbcogdogpihaaGreatDoor
open Go.RowKit Go.Shelf
/-- a disk whose pages are c, now and when all is done -/
structure DkC (D : Dk) (n : Nat) (c : Int → Option (Nat × Bs)) : Prop where
  ok : DkOk D n c
  well : WellD D
  sees : ∀ i : Int, 0 ≤ i → i < (n : Int) → D.get i = (doneL D.sure D.pend).getD i.toNat []
theorem DkC.readD {D : Dk} {n : Nat} {c : Int → Option (Nat × Bs)} (h : DkC D n c) (id : Int) : DkC (D.readD id) n c := by
  unfold Dk.readD
  split
  · exact h
  · split
    · exact h
    · exact ⟨⟨h.ok.size, h.ok.left, h.ok.down, h.ok.page⟩, ⟨h.well.sure, h.well.pend⟩, h.sees⟩
theorem fput_eq {D : Dk} {n : Nat} {c : Int → Option (Nat × Bs)} (h : DkOk D n c) {id : Int} (hid : noPage n id = false) {kind : Nat} {b : Bs} (hb : b.length ≤ 240) : D.fput id kind b = D.put id (Pg.page id.toNat kind b) := by
  unfold Dk.fput Dk.wrote
  rw [h.size, hid, h.down, h.left]
  rw [if_neg (by simp), if_neg (by omega), if_neg (by simp), if_neg (by decide), if_neg (by decide)]
theorem doneL_snoc (sure : List Bs) (pend : List (Int × Bs)) (x : Int × Bs) : doneL sure (pend ++ [x]) = (doneL sure pend).set x.1.toNat x.2 := by
  unfold doneL
  rw [List.foldl_append]
  rfl
theorem DkC.fput {D : Dk} {n : Nat} {c : Int → Option (Nat × Bs)} (h : DkC D n c) {id : Int} (hid : noPage n id = false) {kind : Nat} (hk : kind < 256) {b : Bs} (hb : b.length ≤ 240) :
    D.fputE id b = 0 ∧ DkC (D.fput id kind b) n (updP c id kind b) ∧ (D.fput id kind b).writes = D.writes + 1 := by
  obtain ⟨h1, h2, h3, _⟩ := h.ok.fput hid hk hb
  have hb2 : ¬ id < 2 ∧ ¬ (n : Int) ≤ id := by simpa [noPage] using hid
  refine ⟨h1, ?_, h3⟩
  have hp := fput_eq h.ok hid (kind := kind) hb
  have hsz := h.ok.size
  rw [hp] at h2 ⊢
  refine ⟨h2, ⟨h.well.sure, fun x hx => ?_⟩, fun i hi hn => ?_⟩
  · rcases List.mem_append.1 (show x ∈ D.pend ++ [(id, Pg.page id.toNat kind b)] from hx) with hx | hx
    · exact h.well.pend x hx
    · obtain rfl := List.mem_singleton.1 hx
      exact ⟨Pg.page_length _ _ _ hb, by show 0 ≤ id; omega, by show id < (D.sure.length : Int); omega⟩
  · show (D.put id (Pg.page id.toNat kind b)).get i = (doneL D.sure (D.pend ++ [(id, Pg.page id.toNat kind b)])).getD i.toNat []
    rw [doneL_snoc]
    have hs := h.sees i hi hn
    by_cases e : i = id
    · subst e
      have e1 : (D.put i (Pg.page i.toNat kind b)).get i = Pg.page i.toNat kind b := by unfold Dk.get Dk.put; simp
      rw [e1, List.getD_eq_getElem?_getD, List.getElem?_set_self (by rw [doneL_len]; omega)]
      rfl
    · have e1 : (D.put id (Pg.page id.toNat kind b)).get i = D.get i := by unfold Dk.get Dk.put; simp [e]
      rw [e1, hs, List.getD_eq_getElem?_getD, List.getD_eq_getElem?_getD, List.getElem?_set_ne (by show id.toNat ≠ i.toNat; omega)]
theorem DkC.synced {D : Dk} {n : Nat} {c : Int → Option (Nat × Bs)} (h : DkC D n c) : DkC D.synced n c := by
  have hsz := h.ok.size
  refine ⟨⟨by show (doneL D.sure D.pend).length = n; rw [doneL_len]; exact hsz, h.ok.left, h.ok.down, fun id hid => ?_⟩, ⟨fun x hx => doneL_all (n := n) D.pend D.sure h.well.sure (fun y hy => by have := h.well.pend y hy; omega) x hx, fun x hx => absurd hx List.not_mem_nil⟩, fun i hi hn => rfl⟩
  have hb2 : ¬ id < 2 ∧ ¬ (n : Int) ≤ id := by simpa [noPage] using hid
  have hg : D.synced.get id = D.get id := (h.sees id (by omega) (by omega)).symm
  have := h.ok.page id hid
  unfold PageIs at this ⊢
  rw [hg]
  exact this
theorem fresh_c {n : Nat} : DkC (fresh n) n (fun _ => none) := by
  refine ⟨⟨by simp [fresh], rfl, rfl, fun id hid => .inl ⟨?_, rfl⟩⟩, ⟨fun x hx => ?_, fun x hx => absurd hx List.not_mem_nil⟩, fun i _ _ => rfl⟩
  · have hb : ¬ id < 2 ∧ ¬ (n : Int) ≤ id := by simpa [noPage] using hid
    unfold Dk.get fresh
    simp only
    rw [List.getD_eq_getElem?_getD, List.getElem?_replicate]
    rw [if_pos (by omega)]
    rfl
  · have : x = zeroL := (List.mem_replicate.1 hx).2
    subst this
    decide +kernel
/-- the pages when those of a list were written -/
def updL (c : Int → Option (Nat × Bs)) (q : Nat) (bd : Int → Bs) (ss : List Int) : Int → Option (Nat × Bs) := fun i => if i ∈ ss then some (q, bd i) else c i
theorem flR_ok {n q : Nat} (hq : q < 256) (bd : Int → Bs) (ss : List Int) : ∀ (D : Dk) (c : Int → Option (Nat × Bs)), DkC D n c → (∀ x ∈ ss, noPage n x = false ∧ (bd x).length ≤ 240) →
    (∃ c', DkC (flR D q bd ss) n c' ∧ ∀ i, c' i = updL c q bd ss i) ∧ (flR D q bd ss).writes = D.writes + (ss.length : Int) := by
  induction ss with
  | nil => intro D c h _; exact ⟨⟨c, h, fun i => by simp [updL]⟩, by show D.writes = _; simp⟩
  | cons a r ih =>
    intro D c h hs
    obtain ⟨p1, p2⟩ := hs a (List.mem_cons_self ..)
    obtain ⟨_, g2, g3⟩ := h.fput p1 hq p2
    obtain ⟨⟨c', k1, k2⟩, k3⟩ := ih _ _ g2 (fun x hx => hs x (List.mem_cons_of_mem _ hx))
    refine ⟨⟨c', k1, fun i => ?_⟩, by show (flR (D.fput a q (bd a)) q bd r).writes = _; rw [k3, g3, List.length_cons]; omega⟩
    rw [k2 i]
    unfold updL updP
    by_cases e : i = a
    · subst e; simp
    · simp [e]
theorem flR_err {n q : Nat} (hq : q < 256) (bd : Int → Bs) (ss : List Int) {D : Dk} {c : Int → Option (Nat × Bs)} (h : DkC D n c) (hs : ∀ x ∈ ss, noPage n x = false ∧ (bd x).length ≤ 240) (j : Nat) (hj : j < ss.length) : (flR D q bd (ss.take j)).fputE ss[j] (bd ss[j]) = 0 := by
  obtain ⟨⟨c', k1, _⟩, _⟩ := flR_ok (n := n) hq bd (ss.take j) D c h (fun x hx => hs x (List.mem_of_mem_take hx))
  obtain ⟨p1, p2⟩ := hs _ (List.getElem_mem hj)
  exact (k1.fput p1 hq p2).1
end Go.Proofs.YtlgbcogdogpihaaGreatDoor
