/- The walks of rootstockref08: Same, clip. -/
import Derived.Test.YtknlcfiphkbbaaaRunMem
namespace Go.Proofs.Ytknlcfiphkbbaaa
open Go.RowKit
set_option maxRecDepth 100000 in
set_option maxHeartbeats 400000 in
theorem same_yes (A B : Option Addr) (l : List Run) (c d : Nat) (w : World) (ha : RS w w.heap.size A l) (hb : RS w w.heap.size B l) (hl : l.length ≤ 1000000) :
    Calls Try.prog 11 #[.slice A l.length c, .slice B l.length d] w fun e w' => e = .returned (.bool true) ∧ Below w.heap.size w w' := by
  go_enter Try.func11, Try.ntmps11
  go_wp2
  go_loopw [5] (fun i wr => ∃ k : Nat, k ≤ l.length ∧ i = .int .i64 k ∧ Below w.heap.size w wr) (fun i _ => l.length - (intOf i).toNat)
  case atStart => exact ⟨0, by omega, rfl, Below.refl _ _⟩
  case round =>
    obtain ⟨k, hk, rfl, hbe⟩ := hrel
    by_cases hlt : k < l.length
    · obtain ⟨b1, o1, rfl, _, g0, g1⟩ := (ha.below hbe).at_ hlt
      obtain ⟨b2, o2, rfl, _, g2, g3⟩ := (hb.below hbe).at_ hlt
      go_wp2
      go_quiet (fail)
      go_wp2
      go_roundw
      case rel => exact ⟨k + 1, by omega, by go_num, below_drewN hbe _⟩
      case measure => simp [intOf]; omega
    · go_wp2
      go_ret
      exact ⟨rfl, hbe⟩
set_option maxRecDepth 100000 in
set_option maxHeartbeats 400000 in
theorem clip_any (r : Run) (w : World) : Calls Try.prog 74 #[.agg #[.int .i64 r.1, .int .i64 r.2]] w fun e w' => e = .returned (.tuple #[.agg #[.int .i64 (Rp.clip r).1, .int .i64 (Rp.clip r).2], .bool (decide ((Rp.clip r).1 ≤ (Rp.clip r).2))]) ∧ Below w.heap.size w w' := by
  go_enter Try.func74, Try.ntmps74
  go_wp2
  go_region
  go_wp2
  refine bodyPost_ret (v := .tuple #[.agg #[.int .i64 (max r.1 0), .int .i64 (min r.2 4294967295)], .bool (decide (max r.1 0 ≤ min r.2 4294967295))]) (by simp [results, Try.results74, go_sem]) rfl ⟨rfl, ?_⟩
  exact ((((Below.refl _ _).alloc (Nat.le_refl _) _).alloc (by simp) _).alloc (by simp; omega) _).drew

/-- the state of Put's loop, in memory -/
structure PutSt (w wr : World) (g base : Nat) (st : List Run × Run × Bool) (v d : Value) : Prop where
  own : Own wr base v st.1
  done : d = .bool st.2.2
  run : Blk wr g 55 #[.int .i64 st.2.1.1, .int .i64 st.2.1.2]
  below : Below w.heap.size w wr
  hg : g < base
  hg2 : w.heap.size ≤ g
  hb : base ≤ wr.heap.size
theorem push_own {w : World} {base : Nat} {v : Value} {o : List Run} {y : Run} (h : w.ownsRow base 55 2 v (o.length + 1) (cellsR o ++ #[Value.int .i64 y.1, Value.int .i64 y.2].toList)) : Own w base v (o ++ [y]) := by
  unfold Own
  rw [cellsR_append, cellsR_one, List.length_append]
  exact h
theorem PutSt.step {w wr w2 : World} {g base : Nat} {st st' : List Run × Run × Bool} {v d v' : Value} (h : PutSt w wr g base st v d) (hb : Below base wr w2) (hq : st'.2.1 = st.2.1) (ho : Own w2 base v' st'.1) : PutSt w w2 g base st' v' (.bool st'.2.2) :=
  ⟨ho, rfl, by rw [hq]; exact h.run.below hb h.hg, h.below.trans (hb.mono (by have := h.hg2; have := h.hg; omega)), h.hg, h.hg2, Nat.le_trans h.hb hb.size⟩
def stAt (l : List Run) (r : Run) (k : Nat) : List Run × Run × Bool := (l.take k).foldl Rp.putStep ([], r, false)
theorem stAt_succ (l : List Run) (r : Run) (k : Nat) (hk : k < l.length) : stAt l r (k + 1) = Rp.putStep (stAt l r k) l[k] := by
  unfold stAt
  rw [List.take_succ_eq_append_getElem hk, List.foldl_append]; rfl
def InR (r : Run) : Prop := 0 ≤ r.1 ∧ r.1 ≤ 4294967295 ∧ 0 ≤ r.2 ∧ r.2 ≤ 4294967295
theorem stAt_run (l : List Run) (r : Run) (hl : ∀ y ∈ l, InR y) (hr : InR r) (k : Nat) : InR (stAt l r k).2.1 ∧ (stAt l r k).1.length ≤ k + 1 ∧ ((stAt l r k).2.2 = false → (stAt l r k).1.length ≤ k) := by
  induction k with
  | zero => exact ⟨hr, by simp [stAt], by simp [stAt]⟩
  | succ k ih =>
    by_cases hk : k < l.length
    · rw [stAt_succ l r k hk]
      obtain ⟨h1, h2, h3⟩ := ih
      have hy := hl _ (List.getElem_mem hk)
      generalize stAt l r k = st at *
      generalize l[k] = y at *
      obtain ⟨o, q, d⟩ := st
      unfold Rp.putStep InR at *
      simp only at h1 h2 h3 ⊢
      by_cases c1 : y.2 + 1 < q.1
      · simp only [c1, if_true]; refine ⟨h1, by simp; omega, fun hd => ?_⟩
        have := h3 hd; simp; omega
      · by_cases c2 : q.2 + 1 < y.1
        · cases d
          · simp only [c1, c2, if_true, if_false]; refine ⟨h1, ?_, ?_⟩
            · have := h3 rfl; simp; omega
            · simp
          · simp only [c1, c2, if_true, if_false]; refine ⟨h1, by simp; omega, by simp⟩
        · simp only [c1, c2, if_false]
          refine ⟨by omega, by omega, fun hd => ?_⟩
          have := h3 hd; omega
    · have e : stAt l r (k + 1) = stAt l r k := by unfold stAt; rw [List.take_of_length_le (by omega), List.take_of_length_le (by omega)]
      rw [e]; exact ⟨ih.1, by omega, fun h => by have := ih.2.2 h; omega⟩
set_option maxRecDepth 100000 in
set_option maxHeartbeats 1000000 in
theorem put_any (v : Value) (l : List Run) (x : Run) (base0 : Nat) (w : World) (ho : Own w base0 v l) (hb0 : base0 ≤ w.heap.size) (hl : l.length ≤ 1000000) (hin : ∀ y ∈ l, InR y) :
    Calls Try.prog 58 #[v, .agg #[.int .i64 x.1, .int .i64 x.2]] w fun e w' => ∃ v', e = .returned v' ∧ Own w' base0 v' (Rp.put l x) ∧ Below w.heap.size w w' := by
  obtain ⟨A, c, rfl⟩ := ho.form
  have hrs := ho.rs
  by_cases hc : (Rp.clip x).1 ≤ (Rp.clip x).2
  · rw [Rp.put, if_pos hc]
    have hd : decide ((Rp.clip x).1 ≤ (Rp.clip x).2) = true := by simpa using hc
    have hr : InR (Rp.clip x) := by unfold InR; simp only [Rp.clip, Rp.Most] at *; omega
    have hcl := clip_any x
    rw [hd] at hcl
    have HC := fun W => Lib.hid (hcl W)
    clear hcl hd hc
    generalize Rp.clip x = r at *
    go_enter Try.func58, Try.ntmps58
    go_wp2_with (go_at_call 74; refine (HC _).out.mono ?_; rintro e w1 ⟨rfl, hb1⟩)
    have hbw : Below w.heap.size w w1 := ((Below.refl _ w).alloc (Nat.le_refl _) _).trans (hb1.mono (by simp))
    have hz := hbw.size
    go_loopw [7, 8, 9] (fun v d i wr => ∃ k : Nat, k ≤ l.length ∧ i = .int .i64 k ∧ PutSt w wr w1.heap.size (w1.heap.size + 1) (stAt l r k) v d) (fun _ _ i _ => l.length - (intOf i).toNat)
    case atStart => exact ⟨0, by omega, rfl, ⟨Own.nil_ _ _, rfl, Blk.new _ _ _, hbw.alloc hz _, by omega, hz, by simp⟩⟩
    case round =>
      obtain ⟨k, hk, rfl, ⟨hown, rfl, hrun, hbe, hg, hg2, hb⟩⟩ := hrel
      obtain ⟨q1, q2, q3⟩ := stAt_run l r hin hr k
      by_cases hlt : k < l.length
      · obtain ⟨b1, o1, rfl, _, g0, g1⟩ := (hrs.below hbe).at_ hlt
        have hsu := stAt_succ l r k hlt
        have hy := hin _ (List.getElem_mem hlt)
        generalize stAt l r k = st at *
        generalize l[k] = y at *
        obtain ⟨o, q, dn⟩ := st
        simp only at *
        have r0 : wr.cell? ⟨w1.heap.size, 0, none⟩ = some (.int .i64 q.1) := hrun.cell 0
        have r1 : wr.cell? ⟨w1.heap.size, 1, none⟩ = some (.int .i64 q.2) := hrun.cell 1
        have rf := hrun.frozen
        have hrlt : w1.heap.size < wr.heap.size := hrun.lt
        have HSU := Lib.hid hsu
        clear hsu
        unfold InR at hy q1
        by_cases c1 : y.2 + 1 < q.1
        · go_wp2_with (at_builtin; refine wpList_app1 rfl _ _ 22 rfl eiRun Try.underlying22 rfl (by decide) rfl (World.ownsRow.alloc hown _) rfl (by simp) rfl (by simp [Value.oneCell']) (by unfold maxLen; omega) (by omega) (by simp; omega) ?_; intro v' w2 hown' hgrow hbel _ _)
          go_roundw
          case rel =>
            refine ⟨k + 1, by omega, by go_num, ?_⟩
            have e : stAt l r (k + 1) = (o ++ [y], q, dn) := by rw [HSU.out]; simp [Rp.putStep, c1]
            rw [e]
            exact PutSt.step (st := (o, q, dn)) (st' := (o ++ [y], q, dn)) ⟨hown, rfl, hrun, hbe, hg, hg2, hb⟩ (((Below.refl _ wr).alloc hb _).trans hbel) rfl (push_own hown')
          case measure => simp [intOf]; omega
        · by_cases c2 : q.2 + 1 < y.1
          · cases dn
            · have q3' := q3 rfl
              go_wp2_with (first | (at_builtin; refine wpList_app1 rfl (.tmp 60) (.tmp 62) 22 rfl eiRun Try.underlying22 rfl (by decide) rfl (World.ownsRow.alloc hown _) rfl (by simp) rfl (by simp [Value.oneCell']) (by unfold maxLen; omega) (by omega) (by simp; omega) ?_; intro v' w2 hown' hgrow hbel _ _; have r0 : w2.cell? ⟨w1.heap.size, 0, none⟩ = some (.int .i64 q.1) := ((hrun.alloc _).below hbel hg).cell 0; have hyb : Blk w2 wr.heap.size 55 #[.int .i64 y.1, .int .i64 y.2] := (Blk.new wr _ _).grown hgrow (fun e => absurd (hown.lt _ e.symm).2 (Nat.lt_irrefl _)); have y0 : w2.cell? ⟨wr.heap.size, 0, none⟩ = some (.int .i64 y.1) := hyb.cell 0; have y1 : w2.cell? ⟨wr.heap.size, 1, none⟩ = some (.int .i64 y.2) := hyb.cell 1) | (at_builtin; refine wpList_app1 rfl (.tmp 64) (.tmp 66) 22 rfl eiRun Try.underlying22 rfl (by decide) rfl hown' rfl (by simp) rfl (by simp [Value.oneCell']) (by unfold maxLen; omega) (by omega) (by have := hbel.size; simp at this; omega) ?_; intro v'' w3 hown'' hgrow' hbel' _ _))
              go_roundw
              case rel =>
                refine ⟨k + 1, by omega, by go_num, ?_⟩
                have e : stAt l r (k + 1) = (o ++ [q] ++ [y], q, true) := by rw [HSU.out]; simp [Rp.putStep, c1, c2]
                rw [e]
                have h1 : Own w2 (w1.heap.size + 1) v' (o ++ [q]) := push_own hown'
                have h2 : Own w3 (w1.heap.size + 1) v'' (o ++ [q] ++ [y]) := by
                  refine push_own ?_
                  rw [cellsR_append, cellsR_one, List.length_append]; exact hown''
                exact PutSt.step (st := (o, q, false)) (st' := (o ++ [q] ++ [y], q, true)) ⟨hown, rfl, hrun, hbe, hg, hg2, hb⟩ ((((Below.refl _ wr).alloc hb _).trans hbel).trans hbel') rfl h2
              case measure => simp [intOf]; omega
            · go_wp2_with (at_builtin; refine wpList_app1 rfl (.tmp 64) (.tmp 66) 22 rfl eiRun Try.underlying22 rfl (by decide) rfl (World.ownsRow.alloc hown _) rfl (by simp) rfl (by simp [Value.oneCell']) (by unfold maxLen; omega) (by omega) (by simp; omega) ?_; intro v' w2 hown' hgrow hbel _ _)
              go_roundw
              case rel =>
                refine ⟨k + 1, by omega, by go_num, ?_⟩
                have e : stAt l r (k + 1) = (o ++ [y], q, true) := by rw [HSU.out]; simp [Rp.putStep, c1, c2]
                rw [e]
                exact PutSt.step (st := (o, q, true)) (st' := (o ++ [y], q, true)) ⟨hown, rfl, hrun, hbe, hg, hg2, hb⟩ (((Below.refl _ wr).alloc hb _).trans hbel) rfl (push_own hown')
              case measure => simp [intOf]; omega
          · go_wp2
            go_roundw
            case rel =>
              refine ⟨k + 1, by omega, by go_num, ?_⟩
              have e : stAt l r (k + 1) = (o, (min q.1 y.1, max q.2 y.2), dn) := by rw [HSU.out]; simp [Rp.putStep, c1, c2]
              rw [e]
              exact ⟨World.ownsRow.alloc (ownsRow_setCell_below (ownsRow_setCell_below hown (by simp) _) (by simp) _) _, rfl, (((hrun.set_ 0 _).set_ 1 _).alloc _), ((hbe.setCell hg2 _).setCell hg2 _).alloc (by simpa using hbe.size) _, by simp, hg2, by simpa using Nat.le_succ_of_le hb⟩
            case measure => simp [intOf]; omega
      · obtain rfl : k = l.length := by omega
        have hfin : stAt l r l.length = l.foldl Rp.putStep ([], r, false) := by unfold stAt; rw [List.take_of_length_le (Nat.le_refl _)]
        have HF := Lib.hid hfin
        clear hfin
        generalize stAt l r l.length = st at *
        obtain ⟨o, q, dn⟩ := st
        simp only at *
        have r0 : wr.cell? ⟨w1.heap.size, 0, none⟩ = some (.int .i64 q.1) := hrun.cell 0
        have r1 : wr.cell? ⟨w1.heap.size, 1, none⟩ = some (.int .i64 q.2) := hrun.cell 1
        have hrlt : w1.heap.size < wr.heap.size := hrun.lt
        cases dn
        · have q3' := q3 rfl
          have hown2 := hown
          unfold Own at hown2
          go_wp2_with (at_builtin; refine wpList_app1 rfl (.tmp 70) (.tmp 72) 22 rfl eiRun Try.underlying22 rfl (by decide) rfl hown2 rfl (by simp) rfl (by simp [Value.oneCell']) (by unfold maxLen; omega) (by omega) hb ?_; intro v' w2 hown' hgrow hbel _ _)
          go_ret
          exact ⟨_, rfl, by rw [← HF.out]; exact (push_own hown').lower (by omega), hbe.trans (hbel.mono (by omega))⟩
        · go_wp2
          go_ret
          exact ⟨_, rfl, by rw [← HF.out]; exact Own.lower hown (by omega), hbe⟩
  · rw [Rp.put, if_neg hc]
    have hd : decide ((Rp.clip x).1 ≤ (Rp.clip x).2) = false := by simpa using hc
    have hcl := clip_any x
    rw [hd] at hcl
    have HC := fun W => Lib.hid (hcl W)
    clear hcl hd hc
    generalize Rp.clip x = r at *
    go_enter Try.func58, Try.ntmps58
    go_wp2_with (go_at_call 74; refine (HC _).out.mono ?_; rintro e w1 ⟨rfl, hb1⟩)
    have hbw : Below w.heap.size w w1 := ((Below.refl _ w).alloc (Nat.le_refl _) _).trans (hb1.mono (by simp))
    go_ret
    exact ⟨_, rfl, (ho.below hbw).below (((Below.refl _ _).alloc (Nat.le_refl _) _)), hbw.alloc hbw.size _⟩
/-- the loop of Norm -/
def nAt (l : List Run) (k : Nat) : List Run := (l.take k).foldl Rp.put []
theorem nAt_succ (l : List Run) (k : Nat) (hk : k < l.length) : nAt l (k + 1) = Rp.put (nAt l k) l[k] := by
  unfold nAt
  rw [List.take_succ_eq_append_getElem hk, List.foldl_append]; rfl
theorem canon_inR : ∀ (l : List Run) (lo : Int), 0 ≤ lo → Rp.Canon lo l → ∀ y ∈ l, InR y
  | [], _, _, _, _, hy => by cases hy
  | r :: l, lo, hlo, h, y, hy => by
    obtain ⟨h1, h2, h3, h4⟩ := h
    unfold Rp.Most at h3
    rcases List.mem_cons.1 hy with rfl | hy
    · unfold InR; omega
    · exact canon_inR l _ (by omega) h4 y hy
theorem putStep_len (l : List Run) (r : Run) (k : Nat) (hl : ∀ y ∈ l, InR y) (hr : InR r) : (Rp.putEnd (stAt l r k)).length ≤ k + 1 := by
  obtain ⟨_, h2, h3⟩ := stAt_run l r hl hr k
  unfold Rp.putEnd
  split
  · exact h2
  · rename_i hd
    have := h3 (by simpa using hd)
    simp; omega
theorem put_len (l : List Run) (x : Run) (hl : ∀ y ∈ l, InR y) : (Rp.put l x).length ≤ l.length + 1 := by
  unfold Rp.put
  split
  · rename_i hc
    have := putStep_len l (Rp.clip x) l.length hl (by unfold InR; simp only [Rp.clip, Rp.Most] at *; omega)
    unfold stAt at this
    rwa [List.take_of_length_le (Nat.le_refl _)] at this
  · omega
theorem nAt_ok (l : List Run) (k : Nat) : Rp.Canon 0 (nAt l k) ∧ (nAt l k).length ≤ k := by
  refine ⟨(Rp.norm_from (l.take k) [] trivial).1, ?_⟩
  induction k with
  | zero => simp [nAt]
  | succ k ih =>
    by_cases hk : k < l.length
    · rw [nAt_succ l k hk]
      have := put_len (nAt l k) l[k] (canon_inR _ 0 (Int.le_refl _) (Rp.norm_from (l.take k) [] trivial).1)
      omega
    · have e : nAt l (k + 1) = nAt l k := by unfold nAt; rw [List.take_of_length_le (by omega), List.take_of_length_le (by omega)]
      rw [e]; omega
set_option maxRecDepth 100000 in
set_option maxHeartbeats 1000000 in
theorem norm_any (A : Option Addr) (c : Nat) (l : List Run) (w : World) (hr : RS w w.heap.size A l) (hl : l.length ≤ 1000000) :
    Calls Try.prog 36 #[.slice A l.length c] w fun e w' => ∃ v', e = .returned v' ∧ Own w' w.heap.size v' (Rp.norm l) ∧ Below w.heap.size w w' := by
  go_enter Try.func36, Try.ntmps36
  go_wp2
  go_loopw [3, 4] (fun v i wr => ∃ k : Nat, k ≤ l.length ∧ i = .int .i64 k ∧ Own wr w.heap.size v (nAt l k) ∧ Below w.heap.size w wr) (fun _ i _ => l.length - (intOf i).toNat)
  case atStart => exact ⟨0, by omega, rfl, Own.nil_ _ _, Below.refl _ _⟩
  case round =>
    obtain ⟨k, hk, rfl, hown, hbe⟩ := hrel
    obtain ⟨n1, n2⟩ := nAt_ok l k
    by_cases hlt : k < l.length
    · obtain ⟨b1, o1, rfl, _, g0, g1⟩ := (hr.below hbe).at_ hlt
      have hsu := nAt_succ l k hlt
      have hcon := put_any _ _ l[k] w.heap.size wr hown hbe.size (by omega) (canon_inR _ 0 (Int.le_refl _) n1)
      rw [← hsu] at hcon
      have HC := Lib.hid hcon
      clear hcon hsu
      generalize l[k] = y at *
      go_wp2_with (go_at_call 58; refine HC.out.mono ?_; rintro e w1 ⟨v', rfl, ho', hb'⟩)
      go_roundw
      case rel => exact ⟨k + 1, by omega, by go_num, ho', hbe.trans (hb'.mono hbe.size)⟩
      case measure => simp [intOf]; omega
    · obtain rfl : k = l.length := by omega
      have hfin : nAt l l.length = Rp.norm l := by unfold nAt; rw [List.take_of_length_le (Nat.le_refl _)]; rfl
      rw [hfin] at hown
      go_wp2
      go_ret
      exact ⟨_, rfl, hown, hbe⟩
end Go.Proofs.Ytknlcfiphkbbaaa
