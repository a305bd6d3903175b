/- The walk of slices.Backward's closure over entries, and of treediff.whole. -/
import Derived.RangeFuncNested
import Derived.RangeFuncBound
import Derived.RangeFuncCalls
import Derived.RangeFuncLeaves
import Derived.RangeFuncBox
import Derived.Shelf.Abstract
import Derived.Shelf.RegionOpen
import Derived.WalkKit
import Derived.OwnWalkIn
import Derived.TacticsInMore
import Derived.LoopNIn
import Derived.LoopIn
import Derived.Test.YtknlcfiphkbbaaaDoorEnt2
namespace Go.Proofs.YtknlcfiphkbbaaaDoor
open Go.RowKit Go.Shelf
attribute [local go_sem] Oper.semAt_some
/-- every block of cells at or beyond B lies as it lay -/
def CK (B : Nat) (W W' : World) : Prop := ∀ k o, B ≤ k → W.heap[k]? = some o → o.isCells = true → W'.heap[k]? = some o
theorem CK.refl (B : Nat) (W : World) : CK B W W := fun _ _ _ h _ => h
theorem CK.trans {B : Nat} {W1 W2 W3 : World} (h : CK B W1 W2) (k : CK B W2 W3) : CK B W1 W3 := fun i o hi ho hc => k i o hi (h i o hi ho hc) hc
theorem CK.more {B B' : Nat} {W1 W2 : World} (h : CK B W1 W2) (hB : B ≤ B') : CK B' W1 W2 := fun i o hi ho hc => h i o (by omega) ho hc
theorem CK.cell {B : Nat} {W W' : World} (h : CK B W W') {p : Addr} {v : Value} (hp : B ≤ p.block) (hc : W.cell? p = some v) : W'.cell? p = some v := by
  unfold World.cell? at *
  cases ho : W.heap[p.block]? with
  | none => rw [ho] at hc; simp at hc
  | some o =>
    rw [ho] at hc
    cases o <;> simp at hc
    rename_i c e f
    rw [h _ _ hp ho rfl]
    simp [hc]
/-- what comes: the numbers and the entries, the last one first -/
def downs (l : List Ent) : List (Int × Ent) := (List.range l.length).map fun i => (((l.length - 1 - i : Nat) : Int), l.getD (l.length - 1 - i) (⟨#[]⟩, ⟨#[]⟩))
def encP (x : Int × Ent) : Array Value := #[.int .i64 x.1, .agg #[.string x.2.1, .string x.2.2]]
theorem downs_len (l : List Ent) : (downs l).length = l.length := by simp [downs]
theorem downs_rev (l : List Ent) : (downs l).map (·.2) = l.reverse := by
  refine List.ext_getElem (by simp [downs]) fun i h1 h2 => ?_
  simp only [downs, List.getElem_map, List.getElem_range, List.getElem_reverse]
  rw [List.getD_eq_getElem?_getD, List.getElem?_eq_getElem (by simp [downs] at h1; omega)]; rfl
theorem downs_take (l : List Ent) (k : Nat) (hk : k < l.length) : (downs l).take (k + 1) = (downs l).take k ++ [(((l.length - 1 - k : Nat) : Int), l[l.length - 1 - k]'(by omega))] := by
  rw [List.take_succ_eq_append_getElem (by rw [downs_len]; exact hk)]
  congr 1
  simp only [downs, List.getElem_map, List.getElem_range, List.cons.injEq, and_true, Prod.mk.injEq, true_and]
  rw [List.getD_eq_getElem?_getD, List.getElem?_eq_getElem (by omega)]; rfl
set_option maxRecDepth 100000 in
set_option maxHeartbeats 2000000 in
theorem back1_in (l Bn c : Nat) (A : Option Addr) (rs : List Ent) (hl : rs.length ≤ 1000000) (J Jx : List (Int × Ent) → World → Prop) (Kp : World → World → Prop)
    (W : World) (hKr : ∀ W, Kp W W) (hKt : ∀ W1 W2 W3, Kp W1 W2 → Kp W2 W3 → Kp W1 W3) (hKc : ∀ W', Kp W W' → LS entE W' W'.heap.size A rs ∧ W'.cell? ⟨Bn, 0, none⟩ = some (.slice A rs.length c))
    (hY : ∀ pre x W1, J pre W1 → pre.length < rs.length → YieldAt Fence.wide 0 Tryd.prog l (encP x) W1 fun e W' =>
      (e = .returned (.bool true) ∧ J (pre ++ [x]) W' ∧ Kp W1 W') ∨ (e = .returned (.bool false) ∧ Jx (pre ++ [x]) W')) (h0 : J [] W) :
    CallsIn Fence.wide 1 Tryd.prog 36 #[.func (.yield l) #[] #[], .pointer (some ⟨Bn, 0, none⟩)] W fun e W' => (∃ v, e = .returned v) ∧
      ((∃ ys, ys = downs rs ∧ J ys W') ∨ (∃ pre, pre <+: downs rs ∧ Jx pre W')) := by
  refine callsIn_of_wp Tryd.func36 rfl trivial ?_ rfl
  simp only [Tryd.ntmps36, List.size_toArray, List.length_cons, List.length_nil, Nat.reduceAdd, Nat.reduceSub, Array.replicate_succ, Array.replicate_zero, List.push_toArray, List.append_toArray, List.nil_append, List.cons_append]
  have hc0 := (hKc W (hKr W)).2
  gi_wp2
  gi_loopw [3] (fun i wr => ∃ k : Nat, k ≤ rs.length ∧ i = .int .i64 ((rs.length : Int) - 1 - k) ∧ J ((downs rs).take k) wr ∧ Kp W wr) (fun i _ => (intOf i + 1).toNat)
  case atStart => exact ⟨0, Nat.zero_le _, by simp, by simpa using h0, hKr W⟩
  case round =>
    obtain ⟨k, hk, rfl, hJs, hkp⟩ := hrel
    obtain ⟨hls, hbn⟩ := hKc _ hkp
    by_cases hlt : k < rs.length
    · obtain ⟨q, hq⟩ : ∃ q, q = rs.length - 1 - k := ⟨_, rfl⟩
      have hq2 : q < rs.length := by omega
      obtain ⟨b2, o2, rfl, hb2, g0, g1⟩ := hls.ent hq2
      have hdt := downs_take rs k hlt
      have hpl : ((downs rs).take k).length < rs.length := by rw [List.length_take, downs_len]; omega
      have hpx : (downs rs).take (k + 1) <+: downs rs := List.take_prefix _ _
      subst hq
      have hYk := hY _ ((((rs.length - 1 - k : Nat) : Int)), rs[rs.length - 1 - k]) _ hJs hpl
      unfold encP at hYk
      obtain ⟨fn, tmps, assign, body, hyl, hR⟩ := hYk
      rw [← hdt] at hR
      simp only at hyl
      have e : ((rs.length - 1 - k : Nat) : Int) = (rs.length : Int) - 1 - k := by omega
      rw [e] at hyl
      have e3 : ((rs.length : Int) - 1 - k).toNat = rs.length - 1 - k := by omega
      clear hdt e
      generalize rs[rs.length - 1 - k] = y at *
      generalize rs.length - 1 - k = q at *
      gi_wp2
      refine hR.mono ?_
      rintro e W3 (⟨rfl, hJ3, hk3⟩ | ⟨rfl, hJx3⟩)
      · gi_wp2
        go_roundw
        case rel => exact ⟨k + 1, by omega, by go_num, hJ3, hKt _ _ _ hkp hk3⟩
        case measure => simp [intOf]; omega
      · gi_wp2
        refine bodyPost_ret (results_none rfl _ _ _) rfl ?_
        exact ⟨⟨_, rfl⟩, .inr ⟨_, hpx, hJx3⟩⟩
    · obtain rfl : k = rs.length := by omega
      gi_wp2
      go_end0
      rw [List.take_of_length_le (by rw [downs_len]; exact Nat.le_refl _)] at hJs
      exact ⟨⟨_, rfl⟩, .inl ⟨_, rfl, hJs⟩⟩
end Go.Proofs.YtknlcfiphkbbaaaDoor
