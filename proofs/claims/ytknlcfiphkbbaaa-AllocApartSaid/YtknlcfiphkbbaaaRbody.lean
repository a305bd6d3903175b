/- The walk of rootstockref09.Body. -/
import Derived.Test.YtknlcfiphkbbaaaRef1
import Derived.Test.YtknlcfiphkbbaaaRunMem
namespace Go.Proofs.Ytknlcfiphkbbaaa
open Go.RowKit
def rS (next : Int) (l : List Run) (k : Nat) : List UInt8 := Cp.be 4 next.toNat ++ Cp.be 2 l.length ++ (l.take k).flatMap Cp.runBytes
theorem rS_succ (next : Int) (l : List Run) (k : Nat) (hk : k < l.length) : rS next l (k + 1) = rS next l k ++ Cp.be 4 l[k].1.toNat ++ Cp.be 4 l[k].2.toNat := by
  unfold rS; rw [List.take_succ_eq_append_getElem hk, List.flatMap_append]; simp [Cp.runBytes]
theorem rS_len (next : Int) (l : List Run) (k : Nat) (hk : k ≤ l.length) : (rS next l k).length = 6 + 8 * k := by
  unfold rS; rw [List.length_append, List.length_append, Cp.flat_length, Cp.be_length, Cp.be_length]; simp; omega
theorem body_rS (next : Int) (l : List Run) (h1 : Cp.fits 4 next = true) (h2 : l.length ≤ 29) (h3 : ∀ k (hk : k < l.length), Cp.okRun l[k] = true) : Cp.body next l = some (rS next l l.length) := by
  unfold Cp.body rS
  rw [List.take_of_length_le (Nat.le_refl _), if_pos]
  rw [h1]
  simp only [Bool.true_and, Bool.and_eq_true, decide_eq_true_eq]
  refine ⟨h2, List.all_eq_true.2 fun r hr => ?_⟩
  obtain ⟨k, hk, rfl⟩ := List.getElem_of_mem hr
  exact h3 k hk
theorem body_no (next : Int) (l : List Run) (k : Nat) (hk : k < l.length) (h : Cp.okRun l[k] = false) : Cp.body next l = none := by
  unfold Cp.body
  rw [if_neg]
  intro hh
  simp only [Bool.and_eq_true] at hh
  have := List.all_eq_true.1 hh.2 _ (List.getElem_mem hk)
  rw [h] at this; cases this
def rbodyV (o : Option (List UInt8)) : Value := match o with
  | some s => .tuple #[.string ⟨s.toArray⟩, .bool true]
  | none => .tuple #[.string ⟨#[]⟩, .bool false]
theorem rput4_ex (n : Int) (w : World) (h : n ≤ 9223372036854775807) : Calls Try.prog 32 #[.int .i64 4, .int .i64 n] w fun e w' => (∃ (S : List UInt8) (b : Bool), e = .returned (.tuple #[.string ⟨S.toArray⟩, .bool b]) ∧ S.length ≤ 4 ∧ Hid (b = Cp.fits 4 n ∧ (b = true → S = Cp.be 4 n.toNat))) ∧ Below w.heap.size w w' :=
  (rput4_any n w h).mono fun _ _ ⟨⟨_, he, hl, ht⟩, hb⟩ => ⟨⟨_, _, he, hl, ⟨rfl, ht⟩⟩, hb⟩
theorem rput2_ex (n : Int) (w : World) (h : n ≤ 9223372036854775807) : Calls Try.prog 32 #[.int .i64 2, .int .i64 n] w fun e w' => (∃ (S : List UInt8) (b : Bool), e = .returned (.tuple #[.string ⟨S.toArray⟩, .bool b]) ∧ S.length ≤ 2 ∧ Hid (b = Cp.fits 2 n ∧ (b = true → S = Cp.be 2 n.toNat))) ∧ Below w.heap.size w w' :=
  (rput2_any n w h).mono fun _ _ ⟨⟨_, he, hl, ht⟩, hb⟩ => ⟨⟨_, _, he, hl, ⟨rfl, ht⟩⟩, hb⟩
def Wf64 (n : Int) : Prop := n ≤ 9223372036854775807
set_option maxRecDepth 100000 in
set_option maxHeartbeats 1000000 in
theorem rbody_any (next : Int) (A : Option Addr) (c : Nat) (l : List Run) (w : World) (hr : RS w w.heap.size A l) (hl : l.length ≤ 1000000) (hn : Wf64 next) (hw : ∀ k (hk : k < l.length), Wf64 l[k].1 ∧ Wf64 l[k].2) :
    Calls Try.prog 8 #[.int .i64 next, .slice A l.length c] w fun e w' => e = .returned (rbodyV (Cp.body next l)) ∧ Below w.heap.size w w' := by
  go_enter Try.func8, Try.ntmps8
  go_wp2_with fail
  refine (rput4_ex next _ hn).mono ?_
  rintro e w1 ⟨⟨S1, f1, rfl, hs1, HS1⟩, hb1⟩
  cases f1
  · have hno : Cp.body next l = none := by
      unfold Cp.body; rw [← HS1.out.1]; simp
    have HN := Lib.hid hno
    clear hno
    go_wp2
    go_ret2
    exact ⟨by rw [HN.out]; rfl, hb1⟩
  · by_cases h29 : l.length ≤ 29
    · go_wp2_with fail
      refine (rput2_ex (l.length : Int) _ (by omega)).mono ?_
      rintro e w2 ⟨⟨S2, f2, rfl, hs2, HS2⟩, hb2⟩
      have hbw : Below w.heap.size w w2 := hb1.trans (hb2.mono hb1.size)
      go_wp2
      go_loopw [6, 10] (fun s i wr => ∃ k : Nat, k ≤ l.length ∧ i = .int .i64 k ∧ s = .string ⟨(rS next l k).toArray⟩ ∧ (∀ j (hj : j < l.length), j < k → Cp.okRun l[j] = true) ∧ Below w.heap.size w wr) (fun _ i _ => l.length - (intOf i).toNat)
      case atStart =>
        refine ⟨0, by omega, rfl, ?_, fun j hj h => absurd h (by omega), hbw⟩
        have hf2 : f2 = true := by rw [HS2.out.1]; unfold Cp.fits; simp; omega
        rw [str_append, HS1.out.2 (by first | rfl | trivial), HS2.out.2 hf2]; unfold rS; simp
      case round =>
        obtain ⟨k, hk, rfl, rfl, hok, hb⟩ := hrel
        have HOK := Lib.hid hok
        clear hok
        have hsl := rS_len next l k hk
        have hsl2 : (rS next l k).length ≤ 1000 := by omega
        clear hsl
        by_cases hlt : k < l.length
        · obtain ⟨b1, o1, rfl, hbl, g0, g1⟩ := (hr.below hb).at_ hlt
          have hss := rS_succ next l k hlt
          have HSS := Lib.hid hss
          clear hss
          obtain ⟨w1', w2'⟩ := hw k hlt
          have hno := body_no next l k hlt
          have HNO := Lib.hid hno
          clear hno
          have hyk : ∃ y, y = l[k] := ⟨_, rfl⟩
          obtain ⟨y, hy⟩ := hyk
          rw [← hy] at g0 g1 HSS w1' w2' HNO
          have HY := Lib.hid hy
          clear hy
          obtain ⟨a, b⟩ := y
          simp only at *
          generalize hS : rS next l k = S at *
          clear hS
          have e0 : wr.cell? ⟨b1, o1 + k * 2, none⟩ = some (.int .i64 a) := g0
          go_wp2_with fail
          refine (rput4_ex a _ w1').mono ?_
          rintro e w3 ⟨⟨S3, f3, rfl, hs3, HS3⟩, hb3⟩
          have hblt : b1 < wr.heap.size := Nat.lt_of_lt_of_le hbl hb.size
          have c1 : w3.cell? ⟨b1, o1 + k * 2 + 1, none⟩ = some (.int .i64 b) := (hb3.cell hblt).trans g1
          have c0 : w3.cell? ⟨b1, o1 + k * 2, none⟩ = some (.int .i64 a) := (hb3.cell hblt).trans g0
          go_wp2_with fail
          refine (rput4_ex b _ w2').mono ?_
          rintro e w4 ⟨⟨S4, f4, rfl, hs4, HS4⟩, hb4⟩
          have hblt2 : b1 < w3.heap.size := Nat.lt_of_lt_of_le hblt hb3.size
          have d1 : w4.cell? ⟨b1, o1 + k * 2 + 1, none⟩ = some (.int .i64 b) := (hb4.cell hblt2).trans c1
          have d0 : w4.cell? ⟨b1, o1 + k * 2, none⟩ = some (.int .i64 a) := (hb4.cell hblt2).trans c0
          have hbb : Below w.heap.size w w4 := (hb.trans (hb3.mono hb.size)).trans (hb4.mono (Nat.le_trans hb.size hb3.size))
          clear c0 c1 g0 g1
          have hk' : Cp.okRun (a, b) = (f3 && f4 && decide (a ≤ b)) := by
            rw [HS3.out.1, HS4.out.1]; rfl
          have HK := Lib.hid hk'
          clear hk'
          cases f3
          · go_wp2
            go_quiet (fail)
            go_wp2
            go_ret2
            exact ⟨by rw [HNO.out HK.out]; rfl, below_drewN hbb _⟩
          · cases f4
            · go_wp2
              go_quiet (fail)
              go_wp2
              go_ret2
              exact ⟨by rw [HNO.out HK.out]; rfl, below_drewN hbb _⟩
            · by_cases hab : a ≤ b
              · go_wp2
                go_quiet (fail)
                go_wp2
                go_roundw
                case rel =>
                  refine ⟨k + 1, by omega, by go_num, ?_, ?_, below_drewN hbb _⟩
                  · rw [str_append, str_append, HSS.out, HS3.out.2 (by first | rfl | trivial), HS4.out.2 (by first | rfl | trivial)]
                  · intro j hj hjk
                    by_cases hjk2 : j < k
                    · exact HOK.out j hj hjk2
                    · obtain rfl : j = k := by omega
                      rw [← HY.out, HK.out, decide_eq_true hab]; rfl
                case measure => simp [intOf]; omega
              · go_wp2
                go_quiet (fail)
                go_wp2
                go_ret2
                exact ⟨by rw [HNO.out (by rw [HK.out, decide_eq_false (Int.not_le.2 hab)]; rfl)]; rfl, below_drewN hbb _⟩
        · obtain rfl : k = l.length := by omega
          have hfin := body_rS next l HS1.out.1.symm h29 fun k hk => HOK.out k hk hk
          have HF := Lib.hid hfin
          clear hfin
          generalize rS next l l.length = S at *
          go_wp2
          go_ret2
          exact ⟨by rw [HF.out]; rfl, hb⟩
    · have hno : Cp.body next l = none := by
        unfold Cp.body; rw [if_neg]; simp; omega
      have HN := Lib.hid hno
      clear hno
      go_wp2
      go_ret2
      exact ⟨by rw [HN.out]; rfl, hb1⟩
end Go.Proofs.Ytknlcfiphkbbaaa
