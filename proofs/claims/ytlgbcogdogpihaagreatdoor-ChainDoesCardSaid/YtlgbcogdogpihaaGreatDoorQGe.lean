/- Plain: what is not in a set, unions, meets, counts, the least number, over runs in the one way. The walks of runs.rest, runs.Count. -/
import Derived.Test.YtlgbcogdogpihaaGreatDoorQGb
import Derived.Test.YtlgbcogdogpihaaGreatDoorQSort
namespace Rp
/-- one step of rest: what is out, where it goes on -/
def restStep (st : List Run × Int) (r : Run) : List Run × Int := (if st.2 < r.1 then st.1 ++ [(st.2, r.1 - 1)] else st.1, r.2 + 1)
def restEnd (st : List Run × Int) : List Run := if st.2 ≤ Most then st.1 ++ [(st.2, Most)] else st.1
def rest (l : List Run) : List Run := restEnd ((norm l).foldl restStep ([], 0))
theorem rest_from (l : List Run) : ∀ (out : List Run) (from_ lo : Int), Canon lo l → from_ ≤ lo → 0 ≤ from_ → Canon 0 out → (∀ y, out.getLast? = some y → y.2 + 2 ≤ from_) → from_ ≤ Most + 1 →
    Canon 0 (restEnd (l.foldl restStep (out, from_))) ∧ ∀ n, Mem (restEnd (l.foldl restStep (out, from_))) n ↔ Mem out n ∨ (from_ ≤ n ∧ n ≤ Most ∧ ¬ Mem l n) := by
  induction l with
  | nil =>
    intro out f lo _ _ h0 ho hl hm
    by_cases hle : f ≤ Most
    · have e : restEnd ([].foldl restStep (out, f)) = out ++ [(f, Most)] := if_pos hle
      rw [e]
      refine ⟨canon_append.2 ⟨ho, ?_⟩, fun n => ?_⟩
      · rcases hg : out.getLast? with _ | y
        · exact ⟨h0, hle, Int.le_refl _, trivial⟩
        · exact ⟨hl y hg, hle, Int.le_refl _, trivial⟩
      · rw [mem_append, mem_cons]; simp [mem_nil]
    · have e : restEnd ([].foldl restStep (out, f)) = out := if_neg hle
      rw [e]
      refine ⟨ho, fun n => ⟨.inl, ?_⟩⟩
      rintro (h | h)
      · exact h
      · omega
  | cons r l ih =>
    intro out f lo h hlo h0 ho hl hm
    obtain ⟨g1, g2, g3, g4⟩ := h
    rw [List.foldl_cons]
    unfold restStep
    simp only
    by_cases hf : f < r.1
    · rw [if_pos hf]
      have hc : Canon 0 (out ++ [(f, r.1 - 1)]) := canon_append.2 ⟨ho, by
        rcases hg : out.getLast? with _ | y
        · exact ⟨h0, by simp only; omega, by simp only; omega, trivial⟩
        · exact ⟨hl y hg, by simp only; omega, by simp only; omega, trivial⟩⟩
      obtain ⟨i1, i2⟩ := ih (out ++ [(f, r.1 - 1)]) (r.2 + 1) (r.2 + 2) g4 (by omega) (by omega) hc (fun y hy => by simp at hy; subst hy; simp only; omega) (by omega)
      refine ⟨i1, fun n => ?_⟩
      show Mem (restEnd (l.foldl restStep (out ++ [(f, r.1 - 1)], r.2 + 1))) n ↔ _
      rw [i2, mem_append, mem_cons, mem_cons]
      simp only [mem_nil, or_false]
      constructor
      · rintro ((h | h) | h)
        · exact .inl h
        · refine .inr ⟨h.1, by omega, ?_⟩
          rintro (h' | h')
          · omega
          · have := g4.ge h'; omega
        · refine .inr ⟨by omega, h.2.1, ?_⟩
          rintro (h' | h')
          · omega
          · exact h.2.2 h'
      · rintro (h | ⟨h1, h2, h3⟩)
        · exact .inl (.inl h)
        · by_cases hn : n ≤ r.1 - 1
          · exact .inl (.inr ⟨h1, hn⟩)
          · refine .inr ⟨?_, h2, fun h' => h3 (.inr h')⟩
            rcases Int.lt_or_le r.2 n with h4 | h4
            · omega
            · exact absurd (.inl ⟨by omega, h4⟩) h3
    · rw [if_neg hf]
      have hl' : ∀ y, out.getLast? = some y → y.2 + 2 ≤ r.2 + 1 := fun y hy => by have := hl y hy; omega
      obtain ⟨i1, i2⟩ := ih out (r.2 + 1) (r.2 + 2) g4 (by omega) (by omega) ho hl' (by omega)
      refine ⟨i1, fun n => ?_⟩
      show Mem (restEnd (l.foldl restStep (out, r.2 + 1))) n ↔ _
      rw [i2, mem_cons]
      constructor
      · rintro (h | h)
        · exact .inl h
        · refine .inr ⟨by omega, h.2.1, ?_⟩
          rintro (h' | h')
          · omega
          · exact h.2.2 h'
      · rintro (h | ⟨h1, h2, h3⟩)
        · exact .inl h
        · refine .inr ⟨?_, h2, fun h' => h3 (.inr h')⟩
          rcases Int.lt_or_le r.2 n with h4 | h4
          · omega
          · exact absurd (.inl ⟨by omega, h4⟩) h3
theorem rest_ok (l : List Run) : Canon 0 (rest l) ∧ ∀ n, Mem (rest l) n ↔ 0 ≤ n ∧ n ≤ Most ∧ ¬ Mem l n := by
  obtain ⟨c, m⟩ := norm_ok l
  obtain ⟨i1, i2⟩ := rest_from (norm l) [] 0 0 c (Int.le_refl _) (Int.le_refl _) trivial (fun y hy => by simp at hy) (by unfold Most; omega)
  refine ⟨i1, fun n => ?_⟩
  unfold rest
  rw [i2, m]
  simp only [mem_nil, false_or]
  constructor
  · rintro ⟨h1, h2, h3⟩; exact ⟨h1, h2, fun h => h3 ⟨h, h1, h2⟩⟩
  · rintro ⟨h1, h2, h3⟩; exact ⟨h1, h2, fun h => h3 h.1⟩
theorem restStep_len (l : List Run) : ∀ st : List Run × Int, (l.foldl restStep st).1.length ≤ st.1.length + l.length := by
  induction l with
  | nil => intro st; simp
  | cons r l ih =>
    intro st
    rw [List.foldl_cons, List.length_cons]
    have h := ih (restStep st r)
    have h2 : (restStep st r).1.length ≤ st.1.length + 1 := by unfold restStep; simp only; split <;> simp
    omega
theorem rest_len (l : List Run) : (rest l).length ≤ (norm l).length + 1 := by
  have h := restStep_len (norm l) ([], 0)
  unfold rest restEnd
  split <;> simp at h ⊢ <;> omega
def union (a b : List Run) : List Run := norm (a ++ b)
theorem union_ok (a b : List Run) : Canon 0 (union a b) ∧ ∀ n, Mem (union a b) n ↔ (Mem a n ∨ Mem b n) ∧ 0 ≤ n ∧ n ≤ Most := by
  obtain ⟨c, m⟩ := norm_ok (a ++ b)
  exact ⟨c, fun n => by unfold union; rw [m, mem_append]⟩
def meet (a b : List Run) : List Run := rest (union (rest a) (rest b))
theorem meet_ok (a b : List Run) : Canon 0 (meet a b) ∧ ∀ n, Mem (meet a b) n ↔ 0 ≤ n ∧ n ≤ Most ∧ Mem a n ∧ Mem b n := by
  obtain ⟨c, m⟩ := rest_ok (union (rest a) (rest b))
  refine ⟨c, fun n => ?_⟩
  unfold meet
  rw [m, (union_ok _ _).2, (rest_ok a).2, (rest_ok b).2]
  by_cases h0 : 0 ≤ n <;> by_cases h1 : n ≤ Most <;> by_cases ha : Mem a n <;> by_cases hb : Mem b n <;> simp [h0, h1, ha, hb]
def minus (a b : List Run) : List Run := meet a (rest b)
theorem minus_ok (a b : List Run) : Canon 0 (minus a b) ∧ ∀ n, Mem (minus a b) n ↔ 0 ≤ n ∧ n ≤ Most ∧ Mem a n ∧ ¬ Mem b n := by
  obtain ⟨c, m⟩ := meet_ok a (rest b)
  refine ⟨c, fun n => ?_⟩
  unfold minus
  rw [m, (rest_ok b).2]
  constructor
  · rintro ⟨h0, h1, h2, h3⟩; exact ⟨h0, h1, h2, h3.2.2⟩
  · rintro ⟨h0, h1, h2, h3⟩; exact ⟨h0, h1, h2, h0, h1, h3⟩
theorem mem_one (x n : Int) : Mem [(x, x)] n ↔ n = x := by
  rw [mem_cons]; simp only [mem_nil, or_false]; omega
def has (l : List Run) (n : Int) : Bool := decide (0 ≤ n) && decide (n ≤ Most) && l.any fun r => decide (r.1 ≤ n) && decide (n ≤ r.2)
theorem has_iff (l : List Run) (n : Int) : has l n = true ↔ 0 ≤ n ∧ n ≤ Most ∧ Mem l n := by
  unfold has Mem
  simp only [Bool.and_eq_true, decide_eq_true_eq, List.any_eq_true, and_assoc]
/-- how many numbers -/
def size (l : List Run) : Int := (l.map fun r => r.2 - r.1 + 1).sum
def count (l : List Run) : Int := size (norm l)
/-- the least number of a list in the one way -/
def first (l : List Run) : Option Int := (norm l).head?.map (·.1)
theorem norm_canon {l : List Run} (h : Canon 0 l) : norm l = l := by
  obtain ⟨c, m⟩ := norm_ok l
  refine canon_unique _ _ _ _ c h fun n => ?_
  rw [m]
  exact ⟨fun h => h.1, fun hm => ⟨hm, h.ge hm, h.le hm⟩⟩
end Rp
namespace Go.Proofs.YtlgbcogdogpihaaGreatDoor
open Go.RowKit
/-- how a call that makes a list of runs ends -/
def RunsEnd (o : List Run) (w : World) (e : Ending) (w' : World) : Prop := ∃ v, e = .returned v ∧ Own w' w.heap.size v o ∧ Below w.heap.size w w'
theorem norm_end (A : Option Addr) (c : Nat) (l : List Run) (w : World) (hr : RS w w.heap.size A l) (hl : l.length ≤ 1000000) : Calls Tryz.prog 13 #[.slice A l.length c] w (RunsEnd (Rp.norm l) w) := pnorm_any sort_said A c l w hr hl
theorem norm_inR (l : List Run) : ∀ y ∈ Rp.norm l, InR y := canon_inR _ 0 (Int.le_refl _) (Rp.norm_ok l).1
def rAt (l : List Run) (k : Nat) : List Run × Int := (l.take k).foldl Rp.restStep ([], 0)
theorem rAt_succ (l : List Run) (k : Nat) (hk : k < l.length) : rAt l (k + 1) = Rp.restStep (rAt l k) l[k] := by
  unfold rAt
  rw [List.take_succ_eq_append_getElem hk, List.foldl_append]; rfl
theorem rAt_ok (l : List Run) (hl : ∀ y ∈ l, InR y) (k : Nat) : (rAt l k).1.length ≤ k ∧ 0 ≤ (rAt l k).2 ∧ (rAt l k).2 ≤ 4294967296 := by
  induction k with
  | zero => simp [rAt]
  | succ k ih =>
    by_cases hk : k < l.length
    · rw [rAt_succ l k hk]
      have hy := hl _ (List.getElem_mem hk)
      unfold InR at hy
      obtain ⟨h1, h2, h3⟩ := ih
      unfold Rp.restStep
      simp only
      refine ⟨?_, by omega, by omega⟩
      split
      · simp; omega
      · omega
    · have e : rAt l (k + 1) = rAt l k := by unfold rAt; rw [List.take_of_length_le (by omega), List.take_of_length_le (by omega)]
      rw [e]; exact ⟨by omega, ih.2⟩
set_option maxRecDepth 100000 in
set_option maxHeartbeats 1000000 in
theorem rest_any (A : Option Addr) (c : Nat) (l : List Run) (w : World) (hr : RS w w.heap.size A l) (hl : l.length ≤ 500000) : Calls Tryz.prog 66 #[.slice A l.length c] w (RunsEnd (Rp.rest l) w) := by
  have hc := norm_end A c l w hr (by omega)
  have hnl := norm_len l
  have hin := norm_inR l
  obtain ⟨s, hs⟩ : ∃ s, s = Rp.norm l := ⟨_, rfl⟩
  have hre : Rp.rest l = Rp.restEnd (rAt s s.length) := by unfold rAt Rp.rest; rw [List.take_of_length_le (Nat.le_refl _), hs]
  obtain ⟨o, ho⟩ : ∃ o, o = Rp.rest l := ⟨_, rfl⟩
  rw [← ho] at hre ⊢
  rw [← hs] at hc hnl hin
  have HRE := Lib.hid hre
  have HC := Lib.hid hc
  clear hre hc hs ho
  go_enter Tryz.func66, Tryz.ntmps66
  go_wp2_with fail
  refine HC.out.mono ?_
  rintro e w1 ⟨v1, rfl, ho1, hb1⟩
  obtain ⟨A1, c1, rfl⟩ := ho1.form
  have hrs := ho1.rs
  have hz1 := hb1.size
  go_wp2
  go_loopw [3, 4, 10] (fun v f i wr => ∃ k : Nat, k ≤ s.length ∧ i = .int .i64 k ∧ Own wr w1.heap.size v (rAt s k).1 ∧ f = .int .i64 (rAt s k).2 ∧ Below w1.heap.size w1 wr) (fun _ _ i _ => s.length - (intOf i).toNat)
  case atStart => exact ⟨0, by omega, rfl, Own.nil_ _ _, rfl, Below.refl _ _⟩
  case round =>
    obtain ⟨k, hk, rfl, hown, rfl, hbe⟩ := hrel
    obtain ⟨q1, q2, q3⟩ := rAt_ok s hin k
    by_cases hlt : k < s.length
    · obtain ⟨b1, o1, rfl, _, g0, g1⟩ := (hrs.below hbe).at_ hlt
      have hsu := rAt_succ s k hlt
      have hy := hin _ (List.getElem_mem hlt)
      generalize rAt s k = st at *
      have HSU := Lib.hid hsu
      clear hsu
      generalize s[k] = y at *
      obtain ⟨a, b⟩ := y
      obtain ⟨q, f⟩ := st
      unfold InR at hy
      simp only at hy q1 q2 q3 hown g0 g1
      have hown2 : wr.ownsRow w1.heap.size 62 2 u3 q.length (cellsR q) := hown
      by_cases hf : f < a
      · go_wp2_with (at_builtin; refine wpList_app1 rfl _ _ 22 rfl eiRun Tryz.underlying22 rfl (by decide) rfl (World.ownsRow.alloc hown2 _) rfl (by simp) rfl (by simp [Value.oneCell']) (by unfold maxLen; omega) (by omega) (by have := hbe.size; simp; omega) ?_; intro v' w2 hown' hgrow hbel _ _; have hyb : Blk w2 wr.heap.size 62 #[.int .i64 a, .int .i64 b] := (Blk.new wr _ _).grown hgrow (fun e => absurd (hown2.lt _ e.symm).2 (Nat.lt_irrefl _)); have y1 : w2.cell? ⟨wr.heap.size, 1, none⟩ = some (.int .i64 b) := hyb.cell 1)
        go_roundw
        case rel =>
          refine ⟨k + 1, by omega, by go_num, ?_, ?_, (hbe.alloc hbe.size _).trans hbel⟩
          · rw [HSU.out]; simp only [Rp.restStep, if_pos hf]
            exact push_own (y := (f, a - 1)) hown'
          · rw [HSU.out]; simp only [Rp.restStep]
        case measure => simp [intOf]; omega
      · go_wp2
        go_roundw
        case rel =>
          refine ⟨k + 1, by omega, by go_num, ?_, ?_, hbe.alloc hbe.size _⟩
          · rw [HSU.out]; simp only [Rp.restStep, if_neg (by omega : ¬ f < a)]
            exact World.ownsRow.alloc hown2 _
          · rw [HSU.out]; simp only [Rp.restStep]
        case measure => simp [intOf]; omega
    · obtain rfl : k = s.length := by omega
      generalize rAt s s.length = st at *
      obtain ⟨q, f⟩ := st
      simp only at q1 q2 q3 hown
      have hown2 : wr.ownsRow w1.heap.size 62 2 u3 q.length (cellsR q) := hown
      by_cases hf : f ≤ 4294967295
      · go_wp2_with (at_builtin; refine wpList_app1 rfl _ _ 22 rfl eiRun Tryz.underlying22 rfl (by decide) rfl hown2 rfl (by simp) rfl (by simp [Value.oneCell']) (by unfold maxLen; omega) (by omega) hbe.size ?_; intro v' w2 hown' hgrow hbel _ _)
        go_ret
        refine ⟨_, rfl, ?_, hb1.trans ((hbe.trans hbel).mono hz1)⟩
        rw [HRE.out, Rp.restEnd, if_pos (show f ≤ Rp.Most from hf)]
        exact (push_own (y := (f, 4294967295)) hown').lower hz1
      · go_wp2
        go_ret
        refine ⟨_, rfl, ?_, hb1.trans (hbe.mono hz1)⟩
        rw [HRE.out, Rp.restEnd, if_neg (show ¬ f ≤ Rp.Most from by show ¬ f ≤ 4294967295; omega)]
        exact hown.lower hz1
end Go.Proofs.YtlgbcogdogpihaaGreatDoor
