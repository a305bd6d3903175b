/- The walk of rootstocklaw09.works: the document's examples of chapter 9. -/
import Derived.Test.YtlgbcogdogpihaaGreatDoorQGb
import Derived.Test.YtlgbcogdogpihaaGreatDoorQGd
import Derived.Test.YtlgbcogdogpihaaGreatDoorQSort
namespace Go.Proofs.YtlgbcogdogpihaaGreatDoor
open Go.RowKit
def wl (k : Nat) : List Run := (List.range k).map fun (i : Nat) => (3 * (i : Int), 3 * (i : Int))
theorem wl_succ (k : Nat) : wl (k + 1) = wl k ++ [(3 * (k : Int), 3 * (k : Int))] := by unfold wl; rw [List.range_succ]; simp
theorem wl_len (k : Nat) : (wl k).length = k := by simp [wl]
theorem pg_wl : pg (wl 30) = 2 := by kernel_rfl
theorem pg_nil : pg [] = 0 := by kernel_rfl
def exB : List UInt8 := [0, 0, 0, 7, 0, 1, 0, 0, 0, 1, 0, 0, 0, 3]
theorem body_ex : Cp.body 7 [(1, 3)] = some exB := by kernel_rfl
theorem prog_ex : Cp.prog exB = some (7, [(1, 3)]) := by kernel_rfl
theorem prog_ex' : Cp.prog (exB ++ [120]) = none := by kernel_rfl
theorem RS.one (W : World) (a b : Int) (te : TypeId) : RS (W.alloc (.cells #[.int .i64 a, .int .i64 b] te)) (W.alloc (.cells #[.int .i64 a, .int .i64 b] te)).heap.size (some ⟨W.heap.size, 0, none⟩) [(a, b)] := by
  refine ⟨by simp [cellsR, encR], fun _ => ⟨_, rfl, by simp, fun j u hu => ?_⟩⟩
  rw [Addr.add_lit, Nat.zero_add, (Blk.new W te _).cell j]
  simpa [cellsR, encR] using hu
/-- it returns true, and nothing that was there has turned -/
def TrueEnd (w : World) (e : Ending) (w' : World) : Prop := e = .returned (.bool true) ∧ Below w.heap.size w w'
set_option maxRecDepth 100000 in
set_option maxHeartbeats 1000000 in
theorem works_any (w : World) : Calls Tryz.prog 7 #[] w (TrueEnd w) := by
  go_enter Tryz.func7, Tryz.ntmps7
  go_wp2
  go_loopw [1, 2] (fun v i wr => ∃ k : Nat, k ≤ 30 ∧ i = .int .i64 k ∧ Own wr w.heap.size v (wl k) ∧ Below w.heap.size w wr) (fun _ i _ => 30 - (intOf i).toNat)
  case atStart => exact ⟨0, by omega, rfl, Own.nil_ _ _, Below.refl _ _⟩
  case round =>
    obtain ⟨k, hk, rfl, hown, hb⟩ := hrel
    have hlen := wl_len k
    by_cases hlt : k < 30
    · have hsu := wl_succ k
      have hown2 : wr.ownsRow w.heap.size 62 2 u1 k (cellsR (wl k)) := by have h := hown; unfold Own at h; rwa [hlen] at h
      generalize wl k = l at *
      have HSU := Lib.hid hsu
      have HL := Lib.hid hlen
      clear hsu hlen
      go_wp2_with (at_builtin; refine wpList_app1 rfl _ _ 22 rfl eiRun Tryz.underlying22 rfl (by decide) rfl hown2 rfl (by simp) rfl (by simp [Value.oneCell']) (by unfold maxLen; omega) (by omega) hb.size ?_; intro v' w2 hown' hgrow hbel _ _)
      go_roundw
      case rel =>
        refine ⟨k + 1, by omega, by go_num, ?_, hb.trans hbel⟩
        rw [HSU.out]
        exact push_own (y := (3 * (k : Int), 3 * (k : Int))) (by rw [HL.out]; exact hown')
      case measure => simp [intOf]; omega
    · obtain rfl : k = 30 := by omega
      clear hlt hk
      obtain ⟨A, c, rfl⟩ := hown.form
      have hp1 := fun W hr => pages_any sort_said A c (wl 30) W hr (by rw [hlen]; decide)
      rw [hlen] at hp1
      have hp2 := fun W => pages_any sort_said none 0 [] W RS.nil_ (by decide)
      have hrs := hown.rs
      have hg1 := pg_wl
      have hg2 := pg_nil
      unfold PagesEnd at hp1 hp2
      rw [hg1] at hp1
      rw [hg2] at hp2
      generalize wl 30 = l at *
      rw [hlen]
      have HP1 := fun W hr => Lib.hid (hp1 W hr)
      have HP2 := fun W => Lib.hid (hp2 W)
      clear hp1 hp2 hg1 hg2 hlen
      have hB := fun W => body_any 7 (some ⟨W.heap.size, 0, none⟩) 1 [(1, 3)] _ (RS.one W 1 3 62) (by decide)
      have hP := fun W => parse_any exB W
      have hP2 := fun W => parse_any (exB ++ [120]) W
      rw [body_ex] at hB
      rw [prog_ex] at hP
      rw [prog_ex'] at hP2
      change ∀ W : World, Calls Tryz.prog 36 #[.int .i64 7, .slice (some ⟨W.heap.size, 0, none⟩) 1 1] _ _ at hB
      have HB := fun W => Lib.hid (hB W)
      have HP := fun W => Lib.hid (hP W)
      have HPX := fun W => Lib.hid (hP2 W)
      clear hB hP hP2
      go_wp2_with fail
      refine (HB wr).out.mono ?_
      rintro e w2 ⟨rfl, hb2⟩
      have hbw2 : Below w.heap.size w w2 := (hb.alloc hb.size _).trans (hb2.mono (by have := hb.size; simp; omega))
      have hrs2 : RS w2 w2.heap.size A l := ((hrs.below (w' := w2) (((Below.refl _ wr).alloc (Nat.le_refl _) _).trans (hb2.mono (by simp))))).more (by have := hb2.size; simp at this; omega)
      simp only [bodyV]
      go_wp2_with fail
      refine (HP _).out.mono ?_
      rintro e w3 ⟨n1, v1, l1, x1, rfl, ho1, hb3, ⟨hn, _⟩ | ⟨hs, rfl⟩⟩
      · cases hn
      injection hs with hs
      injection hs with h1 h2
      subst h1 h2
      obtain ⟨A1, c1, rfl⟩ := ho1.form
      go_wp2_with fail
      have hx : (⟨exB.toArray⟩ : ByteArray) ++ ⟨#[120]⟩ = ⟨(exB ++ [120]).toArray⟩ := str_append exB [120]
      rw [hx]
      refine (HPX _).out.mono ?_
      rintro e w4 ⟨n2, v2, l2, x2, rfl, ho2, hb4, ⟨_, rfl, rfl, rfl⟩ | ⟨hs, _⟩⟩
      case inr => cases hs
      obtain ⟨A2, c2, rfl⟩ := ho2.form0
      have hbw4 : Below w.heap.size w w4 := (hbw2.trans (hb3.mono hbw2.size)).trans (hb4.mono (Nat.le_trans hbw2.size hb3.size))
      have hrs4 : RS w4 w4.heap.size A l := (((hrs2.below hb3).more hb3.size).below hb4).more hb4.size
      go_wp2_with fail
      refine (HP1 _ hrs4).out.mono ?_
      rintro e w5 ⟨rfl, hb5⟩
      go_wp2_with fail
      refine (HP2 _).out.mono ?_
      rintro e w6 ⟨rfl, hb6⟩
      have hbw6 : Below w.heap.size w w6 := (hbw4.trans (hb5.mono hbw4.size)).trans (hb6.mono (Nat.le_trans hbw4.size hb5.size))
      have he : exB = [0, 0, 0, 7, 0, 1, 0, 0, 0, 1, 0, 0, 0, 3] := rfl
      go_wp2
      go_ret
      exact ⟨rfl, hbw6⟩
end Go.Proofs.YtlgbcogdogpihaaGreatDoor
