/- What ChainKeeps asks of a disk and of its numbers. -/
import Derived.Test.YtlgbcogdogpihaaGreatDoorQGn
import Derived.Test.YtlgbcogdogpihaaGreatDoorQSameI
import Derived.Test.YtlgbcogdogpihaaGreatDoorQWorks9
namespace Go.Proofs.YtlgbcogdogpihaaGreatDoor
open Go.RowKit Go.Shelf
theorem loadE : Extern.find Tryz.f102 = some (Extern.Atomic.loadT (.int .i64)) := rfl
set_option maxRecDepth 100000 in
theorem peek_any (d j : Nat) (x : Int) (w : World) (hc : w.cell? ⟨d, j, none⟩ = some (.int .i64 x)) :
    Calls Tryz.prog 58 #[.pointer (some ⟨d, j, none⟩)] w fun e w' => e = .returned (.int .i64 x) ∧ w' = w := by
  have hrun := run_call_load (P := Tryz.prog) (f := 102) Tryz.func102 (by kernel_rfl) (by kernel_rfl) (by kernel_rfl) .i64 loadE hc
  go_enter Tryz.func58, Tryz.ntmps58
  go_wp2
  go_ret
  exact ⟨rfl, rfl⟩
set_option maxRecDepth 100000 in
theorem writes_any {w : World} {B d k : Nat} {D : Dk} (h : DkAt w B d k D) :
    Calls Tryz.prog 23 #[.pointer (some ⟨d, 0, none⟩)] w fun e w' => e = .returned (.int .i64 D.writes) ∧ w' = w := by
  obtain ⟨s, m, pv, Dm, h⟩ := h
  have h6 := h.self.cell 6
  simp only [dkCells] at h6
  have hc : w.cell? ⟨d, 6, none⟩ = some (.int .i64 D.writes) := h6
  have hp := peek_any d 6 D.writes w hc
  have hlt := h.self.lt
  generalize D.writes = x at *
  clear h h6
  go_enter Tryz.func23, Tryz.ntmps23
  go_wp2_with fail
  refine Calls.mono hp ?_
  rintro e w1 ⟨rfl, rfl⟩
  go_wp2
  go_ret
  exact ⟨rfl, rfl⟩
/-- all of them pages -/
def rightF (ids : List Int) (i : Nat) : Bool := (ids.take i).all (fun x => decide (2 ≤ x) && decide (x < 40))
theorem rightF_succ (ids : List Int) (i : Nat) (h : i < ids.length) : rightF ids (i + 1) = (rightF ids i && decide (2 ≤ ids[i]) && decide (ids[i] < 40)) := by
  unfold rightF
  rw [List.take_succ_eq_append_getElem h, List.all_append]
  simp [Bool.and_assoc]
theorem rightF_page {ids : List Int} (h : rightF ids ids.length = true) : ∀ x ∈ ids, noPage 40 x = false := by
  unfold rightF at h
  rw [List.take_of_length_le (Nat.le_refl _), List.all_eq_true] at h
  intro x hx
  have := h x hx
  simp at this
  unfold noPage
  simp
  omega
theorem rightF_bad {ids : List Int} (h : rightF ids ids.length = false) : ∃ x ∈ ids, noPage 40 x = true := by
  unfold rightF at h
  rw [List.take_of_length_le (Nat.le_refl _), List.all_eq_false] at h
  obtain ⟨x, hx, hh⟩ := h
  refine ⟨x, hx, ?_⟩
  unfold noPage
  simp at hh ⊢
  omega
/-- one of them twice -/
def twF (ids : List Int) (i : Nat) : Bool := !decide ((ids.take i).Nodup)
def twI (ids : List Int) (i k : Nat) : Bool := twF ids i || (ids.take k).any (fun x => x == ids.getD i 0)
theorem twI_zero (ids : List Int) (i : Nat) : twI ids i 0 = twF ids i := by simp [twI]
theorem twI_succ (ids : List Int) (i k : Nat) (h : k < ids.length) : twI ids i (k + 1) = (twI ids i k || ids[k] == ids.getD i 0) := by
  unfold twI
  rw [List.take_succ_eq_append_getElem h, List.any_append, Bool.or_assoc]
  simp
theorem nodup_succ (ids : List Int) (i : Nat) (h : i < ids.length) : (ids.take (i + 1)).Nodup ↔ (ids.take i).Nodup ∧ ids[i] ∉ ids.take i := by
  rw [List.take_succ_eq_append_getElem h, List.nodup_append]
  constructor
  · rintro ⟨h1, _, h3⟩
    exact ⟨h1, fun hm => h3 _ hm _ (List.mem_singleton.2 rfl) rfl⟩
  · rintro ⟨h1, h2⟩
    refine ⟨h1, by simp, fun a ha b hb => ?_⟩
    rw [List.mem_singleton] at hb
    subst hb
    rintro rfl
    exact h2 ha
theorem twI_end (ids : List Int) (i : Nat) (h : i < ids.length) : twI ids i i = twF ids (i + 1) := by
  have e1 : decide ((ids.take (i + 1)).Nodup) = (decide (ids.take i).Nodup && decide (ids[i] ∉ ids.take i)) := by
    rw [Bool.eq_iff_iff, Bool.and_eq_true, decide_eq_true_iff, decide_eq_true_iff, decide_eq_true_iff]
    exact nodup_succ ids i h
  have e2 : (ids.take i).any (fun x => x == ids.getD i 0) = !decide (ids[i] ∉ ids.take i) := by
    rw [show ids.getD i 0 = ids[i] by simp [List.getD, h]]
    by_cases hm : ids[i] ∈ ids.take i
    · have : (ids.take i).any (fun x => x == ids[i]) = true := List.any_eq_true.2 ⟨_, hm, by simp⟩
      rw [this, decide_eq_false (not_not_intro hm)]
      rfl
    · have : (ids.take i).any (fun x => x == ids[i]) = false := by
        rw [List.any_eq_false]
        intro x hx
        simp
        rintro rfl
        exact hm hx
      rw [this, decide_eq_true hm]
      rfl
  unfold twI twF
  rw [e1, e2]
  cases decide (ids.take i).Nodup <;> cases decide (ids[i] ∉ ids.take i) <;> rfl
theorem twF_end (ids : List Int) : twF ids ids.length = !decide ids.Nodup := by unfold twF; rw [List.take_of_length_le (Nat.le_refl _)]
/-- is it one of the first k -/
def mineF (ids : List Int) (x : Int) (k : Nat) : Bool := (ids.take k).any (fun y => y == x)
theorem mineF_succ (ids : List Int) (x : Int) (k : Nat) (h : k < ids.length) : mineF ids x (k + 1) = (mineF ids x k || ids[k] == x) := by
  unfold mineF
  rw [List.take_succ_eq_append_getElem h, List.any_append]
  simp
theorem mineF_end {ids : List Int} {x : Int} (h : mineF ids x ids.length = false) : x ∉ ids := by
  unfold mineF at h
  rw [List.take_of_length_le (Nat.le_refl _), List.any_eq_false] at h
  intro hx
  have := h x hx
  simp at this
/-- a page written that is not of the chain -/
theorem DkOk.other {D : Dk} {n : Nat} {c : Int → Option (Nat × Bs)} (h : DkOk D n c) {s : List Run} {ids : List Int} (hc : ChainC c s ids) {id : Int} (hid : id ∉ ids) {b : Bs} (hb : b.length ≤ 240) : ∃ c', DkOk (D.fput id 3 b) n c' ∧ ChainC c' s ids := by
  cases hi : noPage n id with
  | true =>
    have : D.fput id 3 b = D := by unfold Dk.fput; rw [h.size, hi]; rfl
    rw [this]
    exact ⟨c, h, hc⟩
  | false =>
    obtain ⟨_, h2, _, _⟩ := h.fput hi (kind := 3) (by decide) hb
    refine ⟨_, h2, hc.congr (fun x hx => ?_)⟩
    unfold updP
    rw [if_neg (fun e => hid (by rw [← e]; exact hx))]
/-- chain.Write with whatever numbers -/
theorem cwrite_law2 {w : World} {B f d k N n : Nat} {c : Int → Option (Nat × Bs)} {D : Dk} (A1 A2 : Option Addr) (c1 c2 : Nat) (l : List Run) (ids : List Int) (hl : l.length ≤ 1000) (hi : ids.length ≤ 1000) (hF : FAt w B f d k D) (hO : DkOk D n c) (hn : n ≤ 16384) (hL : Lim D N) (hN : N + 1000 < 1000000) (hk : k + 1000 < maxLen)
    (hT : HT w) (hB0 : 0 < B) (hB : B ≤ w.heap.size) (h1 : RS w w.heap.size A1 l) (h2 : LS intE w B A2 ids) :
    Calls Tryz.prog 10 #[.pointer (some ⟨f, 0, none⟩), .slice A1 l.length c1, .slice A2 ids.length c2] w fun e w' => ∃ (x y : Int) (D' : Dk) (c' : Int → Option (Nat × Bs)), e = .returned (.tuple #[.int .i64 x, .int .i64 y]) ∧ FAt w' B f d (k + ids.length) D' ∧ Lim D' (N + ids.length) ∧ Below B w w' ∧ Kept w w' ∧
      (((¬ ids.Nodup ∨ ¬ pg l ≤ (ids.length : Int)) ∧ y = 1 ∧ x = 0 ∧ D' = D) ∨ ((ids.Nodup ∧ pg l ≤ (ids.length : Int)) ∧ (∃ id ∈ ids, noPage n id = true) ∧ y = 40 ∧ x = 0) ∨
       ((ids.Nodup ∧ pg l ≤ (ids.length : Int)) ∧ (∀ id ∈ ids, noPage n id = false) ∧ y = 0 ∧ x = ids.headD 0 ∧ DkOk D' n c' ∧ ChainC c' (Rp.norm l) ids ∧ D'.writes = D.writes + (ids.length : Int))) := by
  have h2W : ∀ W, Below B w W → Kept w W → LS intE W W.heap.size A2 ids := fun W hb _ => (h2.below hb).more (Nat.le_trans hB hb.size)
  by_cases hnd : ids.Nodup
  · by_cases hp : pg l ≤ (ids.length : Int)
    · refine (cwrite_ok A1 A2 c1 c2 l ids hl hi w hF hL hN hk hT hB0 hB h1 h2W hnd hp).mono ?_
      rintro e w' ⟨h3, h4, h5, h6⟩
      have hLm := cwRun_lim ids D (Rp.norm l) N hL
      by_cases hv : ∀ id ∈ ids, noPage n id = false
      · obtain ⟨g1, g2, g3, g4⟩ := cwRun_ok hn ids D c (Rp.norm l) hO hv (norm_okRun l)
        rw [g1] at h3
        exact ⟨ids.headD 0, 0, _, _, h3, h4, hLm, h5, h6, .inr (.inr ⟨⟨hnd, hp⟩, hv, rfl, rfl, g2, cwC_chain hn ids c _ hnd hv (norm_okRun l), g3⟩)⟩
      · have hv' : ∃ id ∈ ids, noPage n id = true := by
          rcases Classical.em (∃ id ∈ ids, noPage n id = true) with h | h
          · exact h
          · refine absurd (fun id hid => ?_) hv
            cases hh : noPage n id with
            | false => rfl
            | true => exact absurd ⟨id, hid, hh⟩ h
        have g1 := cwRun_bad ids D c (Rp.norm l) hO hv' (norm_okRun l)
        rw [g1] at h3
        exact ⟨0, 40, _, c, h3, h4, hLm, h5, h6, .inr (.inl ⟨⟨hnd, hp⟩, hv', rfl, rfl⟩)⟩
    · refine (cwrite_bad (.pointer (some ⟨f, 0, none⟩)) A1 A2 c1 c2 l ids (by omega) (by omega) w h1 (h2.more hB) (.inr (by omega))).mono ?_
      rintro e w' ⟨h3, h4⟩
      exact ⟨0, 1, D, c, h3, (hF.keep h4).mono (by omega), hL.mono (by omega), h4.mono hB, Kept.below h4, .inl ⟨.inr hp, rfl, rfl, rfl⟩⟩
  · refine (cwrite_bad (.pointer (some ⟨f, 0, none⟩)) A1 A2 c1 c2 l ids (by omega) (by omega) w h1 (h2.more hB) (.inl hnd)).mono ?_
    rintro e w' ⟨h3, h4⟩
    exact ⟨0, 1, D, c, h3, (hF.keep h4).mono (by omega), hL.mono (by omega), h4.mono hB, Kept.below h4, .inl ⟨.inl hnd, rfl, rfl, rfl⟩⟩
end Go.Proofs.YtlgbcogdogpihaaGreatDoor
