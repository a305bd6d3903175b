/- The walk of chain.Parse. -/
import Derived.Test.YtknlcfiphkbbaaaBody
import Derived.Test.YtknlcfiphkbbaaaRdint
import Derived.Test.YtknlcfiphkbbaaaRef8
namespace Go.Proofs.Ytknlcfiphkbbaaa
open Go.RowKit
theorem readRuns_snoc (k : Nat) : ∀ (r : Cp.Rd), Cp.readRuns (k + 1) r = ((Cp.readRuns k r).1 ++ [(Cp.readRuns k r).2.two.1], (Cp.readRuns k r).2.two.2) := by
  induction k with
  | zero => intro r; simp [Cp.readRuns]
  | succ k ih =>
    intro r
    rw [Cp.readRuns, ih r.two.2]
    simp [Cp.readRuns]
/-- what Parse answers: the number, the runs, whether there is one -/
def pRes (o : Option (Int × List Run)) : Int × List Run × Bool := match o with
  | none => (0, [], false)
  | some (n, l) => (n, l, true)
/-- how chain.Parse ends -/
def ParseEnd (o : Option (Int × List Run)) (w : World) (e : Ending) (w' : World) : Prop :=
  ∃ (n : Int) (v : Value) (l : List Run) (x : Int), e = .returned (.tuple #[.int .i64 n, v, .int .i64 x]) ∧ Own w' w.heap.size v l ∧ Below w.heap.size w w' ∧ (o = none ∧ n = 0 ∧ l = [] ∧ x = 3 ∨ o = some (n, l) ∧ x = 0)
set_option maxRecDepth 100000 in
set_option maxHeartbeats 1000000 in
theorem parse_any (s : List UInt8) (w : World) :
    Calls Try.prog 9 #[.string ⟨s.toArray⟩] w (ParseEnd (Cp.prog s) w) := by
  obtain ⟨o, ho⟩ : ∃ o, o = Cp.prog s := ⟨_, rfl⟩
  rw [← ho]
  have HO := Lib.hid ho
  clear ho
  have hprog : ∀ r1 r2 : Cp.Rd, r1 = ((Cp.Rd.mk s 0).int 4).2 → r2 = (r1.int 2).2 → Cp.prog s = if Cp.body ((Cp.Rd.mk s 0).int 4).1 (Cp.readRuns (min (r1.int 2).1 29) r2).1 = some s then some ((((Cp.Rd.mk s 0).int 4).1 : Int), (Cp.readRuns (min (r1.int 2).1 29) r2).1) else none := by
    intro r1 r2 h1 h2; subst h2; subst h1; rfl
  have HP := Lib.hid hprog
  clear hprog
  go_enter Try.func9, Try.ntmps9
  go_wp2_with fail
  refine (read_any s _).mono ?_
  rintro e w1 ⟨rfl, hw1⟩
  have hB0 : Blk w1 w.heap.size 105 (rdCells ⟨s, 0⟩) := by rw [hw1]; exact Blk.new _ _ _
  have hb0 : Below w.heap.size w w1 := by rw [hw1]; exact (Below.refl _ _).alloc (Nat.le_refl _) _
  clear hw1
  go_wp2_with fail
  refine (int_any w.heap.size ⟨s, 0⟩ 4 _ hB0 (by omega)).mono ?_
  generalize hn1 : ((Cp.Rd.mk s 0).int 4).1 = next
  generalize hr1 : ((Cp.Rd.mk s 0).int 4).2 = r1
  have HN := Lib.hid hn1
  have HR1 := Lib.hid hr1
  clear hn1 hr1
  rintro e w2 ⟨rfl, hB1, hg1⟩
  go_wp2_with fail
  refine (int_any w.heap.size r1 2 _ hB1 (by omega)).mono ?_
  generalize hn2 : (r1.int 2).1 = n
  generalize hr2 : (r1.int 2).2 = r2
  have HN2 := Lib.hid hn2
  have HR2 := Lib.hid hr2
  clear hn2 hr2
  rintro e w3 ⟨rfl, hB2, hg2⟩
  have hbw : Below w.heap.size w w3 := (hb0.grown hg1 hb0.size (fun k e => by cases e; exact Nat.le_refl _)).grown hg2 (Nat.le_trans hb0.size hg1.size) (fun k e => by cases e; exact Nat.le_refl _)
  have hz3 : w.heap.size < w3.heap.size := hB2.lt
  obtain ⟨m, hm⟩ : ∃ m : Nat, m = min n 29 := ⟨_, rfl⟩
  have hmi : min (n : Int) 29 = (m : Int) := by omega
  have hm29 : m ≤ 29 := by omega
  have HM := Lib.hid hm
  clear hm
  go_wp2
  go_loopw [8, 20] (fun v i wr => ∃ k : Nat, k ≤ m ∧ i = .int .i64 k ∧ Own wr w3.heap.size v (Cp.readRuns k r2).1 ∧ Blk wr w.heap.size 105 (rdCells (Cp.readRuns k r2).2) ∧ Below w.heap.size w wr ∧ w3.heap.size ≤ wr.heap.size) (fun _ i _ => m - (intOf i).toNat)
  case atStart => exact ⟨0, by omega, rfl, Own.nil_ _ _, hB2, hbw, Nat.le_refl _⟩
  case round =>
    obtain ⟨k, hk, rfl, hown, hB, hb, hz⟩ := hrel
    have hlen := Cp.readRuns_length k r2
    by_cases hlt : k < m
    · have hsn := readRuns_snoc k r2
      generalize (Cp.readRuns k r2).1 = l at *
      generalize (Cp.readRuns k r2).2 = R at *
      have HSN := Lib.hid hsn
      clear hsn
      have hle : l.length ≤ 29 := by omega
      have HLEN := Lib.hid hlen
      clear hlen
      go_wp2_with fail
      refine (int_any w.heap.size R 4 _ hB (by omega)).mono ?_
      unfold Cp.Rd.two at HSN
      generalize (R.int 4).1 = a at *
      generalize (R.int 4).2 = R1 at *
      rintro e w4 ⟨rfl, hB4, hg4⟩
      go_wp2_with fail
      refine (int_any w.heap.size R1 4 _ hB4 (by omega)).mono ?_
      generalize (R1.int 4).1 = b at *
      generalize (R1.int 4).2 = R2 at *
      rintro e w5 ⟨rfl, hB5, hg5⟩
      have hg45 : wr.grownBy w5 (some w.heap.size) := hg4.trans hg5
      have hne : u8.ownBlock ≠ some w.heap.size := fun e => by have := (hown.lt _ e).1; omega
      have hown5 : w5.ownsRow w3.heap.size 55 2 u8 l.length (cellsR l) := World.ownsRow.kept hown hg45 (.inr hne)
      have hz5 : w3.heap.size ≤ w5.heap.size := Nat.le_trans hz hg45.size
      have hb5 : Below w.heap.size w w5 := hb.grown hg45 hb.size (fun k e => by cases e; exact Nat.le_refl _)
      go_wp2_with (at_builtin; refine wpList_app1 rfl _ _ 22 rfl eiRun Try.underlying22 rfl (by decide) rfl hown5 rfl (by simp) rfl (by simp [Value.oneCell']) (by unfold maxLen; omega) (by omega) hz5 ?_; intro v' w6 hown' hgrow hbel _ _)
      go_roundw
      case rel =>
        refine ⟨k + 1, by omega, by go_num, ?_, ?_, hb5.trans (hbel.mono (by omega)), Nat.le_trans hz5 hbel.size⟩
        · rw [HSN.out]; exact push_own (y := ((a : Int), (b : Int))) hown'
        · rw [HSN.out]; exact hB5.below hbel hz3
      case measure => simp [intOf]; omega
    · obtain rfl : k = m := by omega
      have hpp := HP.out r1 r2 HR1.out.symm (by rw [HR2.out])
      rw [HN2.out, HN.out, ← HM.out] at hpp
      generalize (Cp.readRuns k r2).1 = l at *
      generalize (Cp.readRuns k r2).2 = R at *
      have HPP := Lib.hid hpp
      clear hpp
      have hle : l.length ≤ 1000000 := by omega
      have hle2 : l.length ≤ 29 := by omega
      have HLE := Lib.hid hle2
      clear hlen hle2
      obtain ⟨A, c, rfl⟩ := hown.form
      have hbody := body_any (next : Int) A c l wr hown.rs hle
      cases hbd : Cp.body (next : Int) l with
      | none =>
        rw [hbd] at hbody
        have hpn : Cp.prog s = none := by rw [HPP.out, hbd]; simp
        have HPN := Lib.hid hpn
        have HBD := Lib.hid hbody
        clear hpn hbody hbd
        go_wp2_with (go_at_call 7; refine HBD.out.mono ?_; rintro e w7 ⟨rfl, hb7⟩; simp only [bodyV])
        go_ret3
        exact ⟨0, _, [], 3, rfl, Own.nil_ _ _, hb.trans (hb7.mono hb.size), .inl ⟨by rw [HO.out, HPN.out], rfl, rfl, rfl⟩⟩
      | some S =>
        rw [hbd] at hbody
        have hSl : S.length ≤ 1000 := by have := Cp.body_length hbd; have := HLE.out; omega
        by_cases hS : S = s
        · subst hS
          have hpn : Cp.prog S = some ((next : Int), l) := by rw [HPP.out, hbd]; simp
          have HPN := Lib.hid hpn
          have HBD := Lib.hid hbody
          clear hpn hbody hbd
          go_wp2_with (go_at_call 7; refine HBD.out.mono ?_; rintro e w7 ⟨rfl, hb7⟩; simp only [bodyV])
          go_ret3
          exact ⟨_, _, l, 0, rfl, (hown.below hb7).lower (by omega), hb.trans (hb7.mono hb.size), .inr ⟨by rw [HO.out, HPN.out], rfl⟩⟩
        · have hpn : Cp.prog s = none := by rw [HPP.out, hbd, if_neg]; simpa using hS
          have hne : (S == s) = false := by simpa using hS
          have HPN := Lib.hid hpn
          have HBD := Lib.hid hbody
          clear hpn hbody hbd
          go_wp2_with (go_at_call 7; refine HBD.out.mono ?_; rintro e w7 ⟨rfl, hb7⟩; simp only [bodyV])
          go_ways
          go_ret3
          exact ⟨0, _, [], 3, rfl, Own.nil_ _ _, hb.trans (hb7.mono hb.size), .inl ⟨by rw [HO.out, HPN.out], rfl, rfl, rfl⟩⟩
end Go.Proofs.Ytknlcfiphkbbaaa
