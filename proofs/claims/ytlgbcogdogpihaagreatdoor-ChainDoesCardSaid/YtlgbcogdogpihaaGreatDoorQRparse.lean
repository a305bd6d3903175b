/- The walk of rootstockref09.Parse. -/
import Derived.Deep.RegionLaw
import Derived.Test.YtlgbcogdogpihaaGreatDoorQGd
import Derived.Test.YtlgbcogdogpihaaGreatDoorQGb
namespace Go.Proofs.YtlgbcogdogpihaaGreatDoor
open Go.RowKit
/-- the runs of bytes, one by one -/
theorem runsOf_snoc (k : Nat) : ∀ (s : List UInt8), Cp.runsOf (k + 1) s = Cp.runsOf k s ++ [((Cp.num ((s.drop (8 * k)).take 4) : Int), (Cp.num ((s.drop (8 * k + 4)).take 4) : Int))] := by
  induction k with
  | zero => intro s; simp [Cp.runsOf]
  | succ k ih =>
    intro s
    rw [Cp.runsOf, ih (s.drop 8)]
    simp only [Cp.runsOf, List.drop_drop, List.cons_append]
    rw [show 8 + 8 * k = 8 * (k + 1) by omega, show 8 + (8 * k + 4) = 8 * (k + 1) + 4 by omega]
theorem num4_lt (l : List UInt8) : Cp.num (l.take 4) < 4294967296 := by
  have h := Cp.num_lt (l.take 4)
  have h2 : (l.take 4).length ≤ 4 := by simp; omega
  have h3 : 256 ^ (l.take 4).length ≤ 256 ^ 4 := Nat.pow_le_pow_right (by omega) h2
  omega
theorem runsOf_wf (n : Nat) : ∀ (s : List UInt8) (k : Nat) (hk : k < (Cp.runsOf n s).length), Wf64 (Cp.runsOf n s)[k].1 ∧ Wf64 (Cp.runsOf n s)[k].2 := by
  induction n with
  | zero => intro s k hk; simp [Cp.runsOf] at hk
  | succ n ih =>
    intro s k hk
    cases k with
    | zero => have := num4_lt s; have := num4_lt (s.drop 4); simp only [Cp.runsOf, List.getElem_cons_zero]; unfold Wf64; omega
    | succ k => simp only [Cp.runsOf, List.getElem_cons_succ]; exact ih _ k _
theorem slice_part {P : Program} {t : TypeId} (ht : P.underlying t = some .string) (l : List UInt8) (a b : Nat) (i j : Int) (ha : i = a) (hb : j = b) (hab : a ≤ b) (hbl : b ≤ l.length) (W : World) :
    (Instr.slice t (.string ⟨l.toArray⟩) (some (.int .i64 i)) (some (.int .i64 j)) none).run P W = .ok (.string ⟨((l.drop a).take (b - a)).toArray⟩) W := by
  subst ha hb
  rw [run_slice_string W t ⟨l.toArray⟩ .i64 .i64 a b ht (by omega) (by omega) (by show ((b : Nat) : Int) ≤ (l.toArray.size : Int); simp; omega)]
  congr 2
  apply ByteArray.ext; simp
theorem extract_part (l : List UInt8) (a b : Nat) : ByteArray.extract ⟨l.toArray⟩ a b = ⟨((l.drop a).take (b - a)).toArray⟩ := by
  apply ByteArray.ext; simp
/-- how rootstockref09.Parse ends -/
def RParseEnd (o : Option (Int × List Run)) (w : World) (e : Ending) (w' : World) : Prop :=
  ∃ (n : Int) (v : Value) (l : List Run) (x : Bool), e = .returned (.tuple #[.int .i64 n, v, .bool x]) ∧ Own w' w.heap.size v l ∧ Below w.heap.size w w' ∧ (o = none ∧ n = 0 ∧ l = [] ∧ x = false ∨ o = some (n, l) ∧ x = true)
set_option maxRecDepth 100000 in
set_option maxHeartbeats 1000000 in
theorem rparse_any (s : List UInt8) (w : World) (hs : s.length ≤ 1000000) :
    Calls Tryz.prog 52 #[.string ⟨s.toArray⟩] w (RParseEnd (Cp.parse s) w) := by
  by_cases h6 : s.length < 6
  · have hp : Cp.parse s = none := by unfold Cp.parse; rw [if_pos h6]
    rw [hp]
    clear hp
    go_enter Tryz.func52, Tryz.ntmps52
    go_wp2
    go_ret3
    exact ⟨0, _, [], false, rfl, Own.nil_ _ _, Below.refl _ _, .inl ⟨rfl, rfl, rfl, rfl⟩⟩
  · obtain ⟨o, ho⟩ : ∃ o, o = Cp.parse s := ⟨_, rfl⟩
    rw [← ho]
    unfold Cp.parse at ho
    rw [if_neg h6] at ho
    have e1 := extract_part s 0 4
    have e2 := extract_part s 4 6
    simp only [List.drop_zero, Nat.sub_zero] at e1
    generalize hn1 : Cp.num (s.take 4) = next at ho
    generalize hn2 : Cp.num ((s.drop 4).take 2) = n at ho
    have hr1 := fun W => rint_any (s.take 4) W (by simp; omega)
    have hr2 := fun W => rint_any ((s.drop 4).take 2) W (by simp; omega)
    rw [hn1] at hr1
    rw [hn2] at hr2
    have hnb : n < 65536 := by rw [← hn2]; have := Cp.num_lt ((s.drop 4).take 2); have h2 : ((s.drop 4).take 2).length = 2 := by simp; omega
                               rw [h2] at this; exact this
    have hxb : next < 4294967296 := by rw [← hn1]; have := Cp.num_lt (s.take 4); have h2 : (s.take 4).length = 4 := by simp; omega
                                       rw [h2] at this; exact this
    have HR1 := fun W => Lib.hid (hr1 W)
    have HR2 := fun W => Lib.hid (hr2 W)
    have HO := Lib.hid ho
    have E1 := Lib.hid e1
    have E2 := Lib.hid e2
    clear hn1 hn2 hr1 hr2 ho e1 e2
    go_enter Tryz.func52, Tryz.ntmps52
    go_wp2_with fail
    rw [E1.out]
    refine (HR1 _).out.mono ?_
    rintro e w' ⟨rfl, rfl⟩
    go_wp2_with fail
    rw [E2.out]
    refine (HR2 _).out.mono ?_
    rintro e w' ⟨rfl, rfl⟩
    by_cases hbad : 29 < n ∨ s.length ≠ 6 + 8 * n
    · have hO := HO.out
      rw [if_pos hbad] at hO
      have HN := Lib.hid hO
      clear hO
      by_cases hn29 : 29 < n
      · clear hbad
        go_wp2
        go_ret3
        exact ⟨0, _, [], false, rfl, Own.nil_ _ _, Below.refl _ _, .inl ⟨HN.out, rfl, rfl, rfl⟩⟩
      · have hne : ((s.length : Int) != 6 + 8 * (n : Int)) = true := by rw [bne_iff_ne]; omega
        clear hbad
        go_wp2
        go_ret3
        exact ⟨0, _, [], false, rfl, Own.nil_ _ _, Below.refl _ _, .inl ⟨HN.out, rfl, rfl, rfl⟩⟩
    · have hO := HO.out
      rw [if_neg hbad] at hO
      have hn29 : n ≤ 29 := by omega
      have hsl : (s.length : Int) = 6 + 8 * (n : Int) := by omega
      have hsl1 : (s.length : Int) ≤ 6 + 8 * (n : Int) := by omega
      have hsl2 : 6 + 8 * (n : Int) ≤ (s.length : Int) := by omega
      clear hbad HO
      have HN := Lib.hid hO
      clear hO
      go_wp2
      clear hsl
      go_loopw [7, 8] (fun v i wr => ∃ k : Nat, k ≤ n ∧ i = .int .i64 k ∧ Own wr w.heap.size v (Cp.runsOf k (s.drop 6)) ∧ Below w.heap.size w wr) (fun _ i _ => n - (intOf i).toNat)
      case atStart => exact ⟨0, by omega, rfl, Own.nil_ _ _, Below.refl _ _⟩
      case round =>
        obtain ⟨k, hk, rfl, hown, hb⟩ := hrel
        have hlen := Cp.runsOf_length k (s.drop 6)
        by_cases hlt : k < n
        · have hsn := runsOf_snoc k (s.drop 6)
          rw [List.drop_drop, List.drop_drop] at hsn
          have hca := fun W => rint_any ((s.drop (6 + 8 * k)).take 4) W (by simp; omega)
          have hcb := fun W => rint_any ((s.drop (6 + (8 * k + 4))).take 4) W (by simp; omega)
          generalize Cp.num ((s.drop (6 + 8 * k)).take 4) = a at *
          generalize Cp.num ((s.drop (6 + (8 * k + 4))).take 4) = b at *
          generalize Cp.runsOf k (s.drop 6) = l at *
          have HSN := Lib.hid hsn
          have HCA := fun W => Lib.hid (hca W)
          have HCB := fun W => Lib.hid (hcb W)
          clear hsn hca hcb
          have hle : l.length ≤ 29 := by omega
          clear hlen
          go_wp2
          have fa := fun W => slice_part Tryz.underlying9 s (6 + 8 * k) (6 + 8 * k + 4) (6 + 8 * (k : Int)) (6 + 8 * (k : Int) + 4) (by omega) (by omega) (by omega) (by omega) W
          have fb := fun W => slice_part Tryz.underlying9 s (6 + 8 * k + 4) (6 + 8 * k + 8) (6 + 8 * (k : Int) + 4) (6 + 8 * (k : Int) + 8) (by omega) (by omega) (by omega) (by omega) W
          rw [show 6 + 8 * k + 4 - (6 + 8 * k) = 4 by omega] at fa
          rw [show 6 + 8 * k + 8 - (6 + 8 * k + 4) = 4 by omega, show 6 + 8 * k + 4 = 6 + (8 * k + 4) by omega] at fb
          have w1 : IntKind.i64.wrap (6 + 8 * (k : Int) + 4) = 6 + 8 * (k : Int) + 4 := IntWalk.i64_in _ (by omega)
          have w2 : IntKind.i64.wrap (6 + 8 * (k : Int) + 8) = 6 + 8 * (k : Int) + 8 := IntWalk.i64_in _ (by omega)
          have hown3 : wr.drew.ownsRow w.heap.size 62 2 u7 l.length (cellsR l) := hown
          have hb3 : w.heap.size ≤ wr.drew.heap.size := hb.size
          go_region_law (first | (refine step_app1 rfl (.tmp 39) (.tmp 54) 22 rfl eiRun Tryz.underlying22 rfl (by decide) rfl hown3 rfl (by simp) rfl (by simp [Value.oneCell']) (by unfold maxLen; omega) (by omega) hb3 ?_; intro v' w6 hown' hgrow hbel) | (go_simp; go_at_call 94; first | ((with_reducible refine (HCA _).out.mono ?_); rintro e w' ⟨rfl, rfl⟩) | ((with_reducible refine (HCB _).out.mono ?_); rintro e w' ⟨rfl, rfl⟩)))
          go_wp2
          go_roundw
          case rel =>
            refine ⟨k + 1, by omega, by go_num, ?_, hb.drew.trans hbel⟩
            rw [HSN.out]
            exact push_own (y := ((a : Int), (b : Int))) hown'
          case measure => simp [intOf]; omega
        · obtain rfl : k = n := by omega
          have hwf := runsOf_wf k (s.drop 6)
          generalize hL : Cp.runsOf k (s.drop 6) = l at *
          clear hL
          have hle : l.length ≤ 1000000 := by omega
          have hle2 : l.length ≤ 29 := by omega
          have HLE := Lib.hid hle2
          clear hlen hle2
          obtain ⟨A, c, rfl⟩ := hown.form
          have hbody := rbody_any (next : Int) A c l wr hown.rs hle (by unfold Wf64; omega) hwf
          clear hwf
          cases hbd : Cp.body (next : Int) l with
          | none =>
            rw [hbd] at hbody
            have hpn : o = none := by rw [HN.out, hbd]; simp
            have HPN := Lib.hid hpn
            have HBD := Lib.hid hbody
            clear hpn hbody hbd
            go_wp2_with (go_at_call 50; refine HBD.out.mono ?_; rintro e w7 ⟨rfl, hb7⟩; simp only [rbodyV])
            go_ret3
            exact ⟨0, _, [], false, rfl, Own.nil_ _ _, hb.trans (hb7.mono hb.size), .inl ⟨HPN.out, rfl, rfl, rfl⟩⟩
          | some S =>
            rw [hbd] at hbody
            have hSl : S.length ≤ 1000 := by have := Cp.body_length hbd; have := HLE.out; omega
            by_cases hS : S = s
            · subst hS
              have hpn : o = some ((next : Int), l) := by rw [HN.out, hbd]; simp
              have HPN := Lib.hid hpn
              have HBD := Lib.hid hbody
              clear hpn hbody hbd
              go_wp2_with (go_at_call 50; refine HBD.out.mono ?_; rintro e w7 ⟨rfl, hb7⟩; simp only [rbodyV])
              go_ret3
              exact ⟨_, _, l, true, rfl, (hown.below hb7), hb.trans (hb7.mono hb.size), .inr ⟨HPN.out, rfl⟩⟩
            · have hpn : o = none := by rw [HN.out, hbd, if_neg]; simpa using hS
              have hne : (S == s) = false := by simpa using hS
              have HPN := Lib.hid hpn
              have HBD := Lib.hid hbody
              clear hpn hbody hbd
              go_wp2_with (go_at_call 50; refine HBD.out.mono ?_; rintro e w7 ⟨rfl, hb7⟩; simp only [rbodyV])
              go_ret3
              exact ⟨0, _, [], false, rfl, Own.nil_ _ _, hb.trans (hb7.mono hb.size), .inl ⟨HPN.out, rfl, rfl, rfl⟩⟩
end Go.Proofs.YtlgbcogdogpihaaGreatDoor
