/- The walks of runs.rest, runs.Count. -/
import Derived.Test.YtknlcfiphkbbaaaPages
import Derived.Test.YtknlcfiphkbbaaaSort
import Derived.Test.YtknlcfiphkbbaaaSetsP
namespace Go.Proofs.Ytknlcfiphkbbaaa
open Go.RowKit
/-- how a call that makes a list of runs ends -/
def RunsEnd (o : List Run) (w : World) (e : Ending) (w' : World) : Prop := ∃ v, e = .returned v ∧ Own w' w.heap.size v o ∧ Below w.heap.size w w'
theorem norm_end (A : Option Addr) (c : Nat) (l : List Run) (w : World) (hr : RS w w.heap.size A l) (hl : l.length ≤ 1000000) : Calls Try.prog 29 #[.slice A l.length c] w (RunsEnd (Rp.norm l) w) := pnorm_any sort_said A c l w hr hl
theorem norm_inR (l : List Run) : ∀ y ∈ Rp.norm l, InR y := canon_inR _ 0 (Int.le_refl _) (Rp.norm_ok l).1
def rAt (l : List Run) (k : Nat) : List Run × Int := (l.take k).foldl Rp.restStep ([], 0)
theorem rAt_succ (l : List Run) (k : Nat) (hk : k < l.length) : rAt l (k + 1) = Rp.restStep (rAt l k) l[k] := by
  unfold rAt
  rw [List.take_succ_eq_append_getElem hk, List.foldl_append]; rfl
theorem rAt_ok (l : List Run) (hl : ∀ y ∈ l, InR y) (k : Nat) : (rAt l k).1.length ≤ k ∧ 0 ≤ (rAt l k).2 ∧ (rAt l k).2 ≤ 4294967296 := by
  induction k with
  | zero => simp [rAt]
  | succ k ih =>
    by_cases hk : k < l.length
    · rw [rAt_succ l k hk]
      have hy := hl _ (List.getElem_mem hk)
      unfold InR at hy
      obtain ⟨h1, h2, h3⟩ := ih
      unfold Rp.restStep
      simp only
      refine ⟨?_, by omega, by omega⟩
      split
      · simp; omega
      · omega
    · have e : rAt l (k + 1) = rAt l k := by unfold rAt; rw [List.take_of_length_le (by omega), List.take_of_length_le (by omega)]
      rw [e]; exact ⟨by omega, ih.2⟩
set_option maxRecDepth 100000 in
set_option maxHeartbeats 1000000 in
theorem rest_any (A : Option Addr) (c : Nat) (l : List Run) (w : World) (hr : RS w w.heap.size A l) (hl : l.length ≤ 500000) : Calls Try.prog 47 #[.slice A l.length c] w (RunsEnd (Rp.rest l) w) := by
  have hc := norm_end A c l w hr (by omega)
  have hnl := norm_len l
  have hin := norm_inR l
  obtain ⟨s, hs⟩ : ∃ s, s = Rp.norm l := ⟨_, rfl⟩
  have hre : Rp.rest l = Rp.restEnd (rAt s s.length) := by unfold rAt Rp.rest; rw [List.take_of_length_le (Nat.le_refl _), hs]
  obtain ⟨o, ho⟩ : ∃ o, o = Rp.rest l := ⟨_, rfl⟩
  rw [← ho] at hre ⊢
  rw [← hs] at hc hnl hin
  have HRE := Lib.hid hre
  have HC := Lib.hid hc
  clear hre hc hs ho
  go_enter Try.func47, Try.ntmps47
  go_wp2_with fail
  refine HC.out.mono ?_
  rintro e w1 ⟨v1, rfl, ho1, hb1⟩
  obtain ⟨A1, c1, rfl⟩ := ho1.form
  have hrs := ho1.rs
  have hz1 := hb1.size
  go_wp2
  go_loopw [3, 4, 10] (fun v f i wr => ∃ k : Nat, k ≤ s.length ∧ i = .int .i64 k ∧ Own wr w1.heap.size v (rAt s k).1 ∧ f = .int .i64 (rAt s k).2 ∧ Below w1.heap.size w1 wr) (fun _ _ i _ => s.length - (intOf i).toNat)
  case atStart => exact ⟨0, by omega, rfl, Own.nil_ _ _, rfl, Below.refl _ _⟩
  case round =>
    obtain ⟨k, hk, rfl, hown, rfl, hbe⟩ := hrel
    obtain ⟨q1, q2, q3⟩ := rAt_ok s hin k
    by_cases hlt : k < s.length
    · obtain ⟨b1, o1, rfl, _, g0, g1⟩ := (hrs.below hbe).at_ hlt
      have hsu := rAt_succ s k hlt
      have hy := hin _ (List.getElem_mem hlt)
      generalize rAt s k = st at *
      have HSU := Lib.hid hsu
      clear hsu
      generalize s[k] = y at *
      obtain ⟨a, b⟩ := y
      obtain ⟨q, f⟩ := st
      unfold InR at hy
      simp only at hy q1 q2 q3 hown g0 g1
      have hown2 : wr.ownsRow w1.heap.size 55 2 u3 q.length (cellsR q) := hown
      by_cases hf : f < a
      · go_wp2_with (at_builtin; refine wpList_app1 rfl _ _ 22 rfl eiRun Try.underlying22 rfl (by decide) rfl (World.ownsRow.alloc hown2 _) rfl (by simp) rfl (by simp [Value.oneCell']) (by unfold maxLen; omega) (by omega) (by have := hbe.size; simp; omega) ?_; intro v' w2 hown' hgrow hbel _ _; have hyb : Blk w2 wr.heap.size 55 #[.int .i64 a, .int .i64 b] := (Blk.new wr _ _).grown hgrow (fun e => absurd (hown2.lt _ e.symm).2 (Nat.lt_irrefl _)); have y1 : w2.cell? ⟨wr.heap.size, 1, none⟩ = some (.int .i64 b) := hyb.cell 1)
        go_roundw
        case rel =>
          refine ⟨k + 1, by omega, by go_num, ?_, ?_, (hbe.alloc hbe.size _).trans hbel⟩
          · rw [HSU.out]; simp only [Rp.restStep, if_pos hf]
            exact push_own (y := (f, a - 1)) hown'
          · rw [HSU.out]; simp only [Rp.restStep]
        case measure => simp [intOf]; omega
      · go_wp2
        go_roundw
        case rel =>
          refine ⟨k + 1, by omega, by go_num, ?_, ?_, hbe.alloc hbe.size _⟩
          · rw [HSU.out]; simp only [Rp.restStep, if_neg (by omega : ¬ f < a)]
            exact World.ownsRow.alloc hown2 _
          · rw [HSU.out]; simp only [Rp.restStep]
        case measure => simp [intOf]; omega
    · obtain rfl : k = s.length := by omega
      generalize rAt s s.length = st at *
      obtain ⟨q, f⟩ := st
      simp only at q1 q2 q3 hown
      have hown2 : wr.ownsRow w1.heap.size 55 2 u3 q.length (cellsR q) := hown
      by_cases hf : f ≤ 4294967295
      · go_wp2_with (at_builtin; refine wpList_app1 rfl _ _ 22 rfl eiRun Try.underlying22 rfl (by decide) rfl hown2 rfl (by simp) rfl (by simp [Value.oneCell']) (by unfold maxLen; omega) (by omega) hbe.size ?_; intro v' w2 hown' hgrow hbel _ _)
        go_ret
        refine ⟨_, rfl, ?_, hb1.trans ((hbe.trans hbel).mono hz1)⟩
        rw [HRE.out, Rp.restEnd, if_pos (show f ≤ Rp.Most from hf)]
        exact (push_own (y := (f, 4294967295)) hown').lower hz1
      · go_wp2
        go_ret
        refine ⟨_, rfl, ?_, hb1.trans (hbe.mono hz1)⟩
        rw [HRE.out, Rp.restEnd, if_neg (show ¬ f ≤ Rp.Most from by show ¬ f ≤ 4294967295; omega)]
        exact hown.lower hz1
end Go.Proofs.Ytknlcfiphkbbaaa
