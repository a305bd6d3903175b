/- Plain: the check of bytes. The walks of crc.Step, crc.Sum. Plain: what a page's bytes are. -/
import Derived.KernelRfl
import Derived.Laws.BitsAllLaws
import Derived.Test.YtlgbcogdogpihaaGreatDoorQGa
import Derived.Test.YtlgbcogdogpihaaGreatDoorQGd
import Derived.Test.YtlgbcogdogpihaaGreatDoorQGc
namespace Cc
def hv : List Nat := [0, 498536548, 997073096, 651767980, 1994146192, 1802195444, 1303535960, 1342533948, 3988292384, 4027552580, 3604390888, 3412177804, 2607071920, 2262029012, 2685067896, 3183342108]
theorem hv_lt (i : Nat) : hv.getD i 0 < 4294967296 := by
  by_cases h : i < 16
  · have h2 : ∀ j : Fin 16, hv.getD j 0 < 4294967296 := by decide
    exact h2 ⟨i, h⟩
  · have : hv.length ≤ i := by show 16 ≤ i; omega
    rw [List.getD, List.getElem?_eq_none this]; decide
def half (n : Nat) : Nat := n / 16 ^^^ hv.getD (n % 16) 0
theorem half_lt {n : Nat} (h : n < 4294967296) : half n < 4294967296 := Nat.xor_lt_two_pow (n := 32) (by omega) (hv_lt _)
def step (c b : Nat) : Nat := half (half (c ^^^ b))
theorem xor_lt {c b : Nat} (hc : c < 4294967296) (hb : b < 256) : c ^^^ b < 4294967296 := Nat.xor_lt_two_pow (n := 32) hc (by omega)
theorem step_lt {c b : Nat} (hc : c < 4294967296) (hb : b < 256) : step c b < 4294967296 := half_lt (half_lt (xor_lt hc hb))
def run (c : Nat) (l : List UInt8) : Nat := l.foldl (fun c b => step c b.toNat) c
theorem run_lt (l : List UInt8) : ∀ {c : Nat}, c < 4294967296 → run c l < 4294967296 := by
  induction l with
  | nil => intro c h; exact h
  | cons b l ih => intro c h; exact ih (step_lt h b.toNat_lt)
theorem run_append (c : Nat) (a b : List UInt8) : run c (a ++ b) = run (run c a) b := by unfold run; rw [List.foldl_append]
def sum (l : List UInt8) : Nat := run 4294967295 l ^^^ 4294967295
theorem sum_lt (l : List UInt8) : sum l < 4294967296 := Nat.xor_lt_two_pow (n := 32) (run_lt l (by decide)) (by decide)
end Cc
namespace Go.Proofs.YtlgbcogdogpihaaGreatDoor
open Go.RowKit
/-- the table lies where it lay -/
def HT (w : World) : Prop := 0 < w.heap.size ∧ ∀ i, i < 16 → w.cell? ⟨0, i, none⟩ = some (.int .u32 ((Cc.hv.getD i 0 : Nat) : Int))
theorem HT.below {w w' : World} {B : Nat} (h : HT w) (hb : Below B w w') (hB : 0 < B) : HT w' := by
  refine ⟨by have := hb.size; have := h.1; omega, fun i hi => ?_⟩
  rw [hb.cell (p := ⟨0, i, none⟩) hB]; exact h.2 i hi
theorem and15 (n : Nat) (h : n < 4294967296) : bits .and .u32 (n : Int) 15 = ((n % 16 : Nat) : Int) := by
  have e := u32_and_nat n 15 h (by decide)
  rw [show (15 : Nat) = 2 ^ 4 - 1 from rfl, Nat.and_two_pow_sub_one_eq_mod] at e
  exact e
theorem half_bits (n : Nat) (h : n < 4294967296) : bits .xor .u32 ((n : Int) / 16) ((Cc.hv.getD (n % 16) 0 : Nat) : Int) = ((Cc.half n : Nat) : Int) :=
  u32_xor_nat (n / 16) (Cc.hv.getD (n % 16) 0) (by omega) (Cc.hv_lt _)
set_option maxRecDepth 100000 in
set_option maxHeartbeats 1000000 in
theorem step_any (c b : Nat) (hc : c < 4294967296) (hb : b < 256) (w : World) (h : HT w) :
    Calls Tryz.prog 138 #[.int .i64 c, .int .u8 b] w fun e w' => e = .returned (.int .i64 (Cc.step c b)) ∧ w' = w := by
  have e1 : IntKind.u32.wrap (c : Int) = c := IntWalk.u32_in _ (by omega)
  have e2 : IntKind.u32.wrap (b : Int) = b := IntWalk.u32_in _ (by omega)
  have e3 := u32_xor_nat c b hc (by omega)
  have h1 := Cc.xor_lt hc hb
  have g1 := h.2 ((c ^^^ b) % 16) (by omega)
  have h2 := Cc.half_lt h1
  have g2 := h.2 (Cc.half (c ^^^ b) % 16) (by omega)
  have e4 := and15 _ h1
  have e5 := and15 _ h2
  have e6 := half_bits _ h1
  have e7 := half_bits _ h2
  have h3 := Cc.half_lt h2
  unfold Cc.step
  generalize Cc.half (Cc.half (c ^^^ b)) = z at *
  generalize Cc.half (c ^^^ b) = y at *
  generalize c ^^^ b = x at *
  generalize Cc.hv.getD (x % 16) 0 = p at *
  generalize Cc.hv.getD (y % 16) 0 = q at *
  go_enter Tryz.func138, Tryz.ntmps138
  go_wp2
  go_ret
  exact ⟨rfl, rfl⟩
theorem run_take_succ (c : Nat) (l : List UInt8) (j : Nat) (hj : j < l.length) : Cc.run c (l.take (j + 1)) = Cc.step (Cc.run c (l.take j)) l[j].toNat := by
  rw [List.take_succ_eq_append_getElem hj, Cc.run_append]; rfl
theorem sum_bits (l : List UInt8) : bits .xor .i64 ((Cc.run 4294967295 l : Nat) : Int) 4294967295 = ((Cc.sum l : Nat) : Int) :=
  i64_xor_nat (Cc.run 4294967295 l) 4294967295 (by have := Cc.run_lt l (c := 4294967295) (by decide); omega) (by decide)
set_option maxRecDepth 100000 in
set_option maxHeartbeats 1000000 in
theorem sum_any (g c : Nat) (l : List UInt8) (hl : l.length ≤ 1000000) (w : World) (hT : HT w) (hg : w.cell? ⟨g, 0, none⟩ = some (.string ⟨l.toArray⟩)) :
    Calls Tryz.prog 98 #[.slice (some ⟨g, 0, none⟩) 1 c] w fun e w' => e = .returned (.int .i64 (Cc.sum l)) ∧ w.grownBy w' none := by
  have hsum := sum_bits l
  obtain ⟨R, hR⟩ : ∃ R, R = Cc.sum l := ⟨_, rfl⟩
  rw [← hR] at hsum ⊢
  clear hR
  go_enter Tryz.func98, Tryz.ntmps98
  go_wp2
  go_loopw [3, 10] (fun v i wr => (i = .int .i64 0 ∧ v = .int .i64 4294967295 ∧ wr = w) ∨ (i = .int .i64 1 ∧ v = .int .i64 (Cc.run 4294967295 l : Nat) ∧ w.grownBy wr none)) (fun _ i _ => 1 - (intOf i).toNat)
  case atStart => exact .inl ⟨rfl, rfl, rfl⟩
  case round =>
    rcases hrel with ⟨rfl, rfl, rfl⟩ | ⟨rfl, rfl, hgr⟩
    · obtain ⟨cap, w2, hrun, hg2, hcells⟩ := bytes_of_str (P := Tryz.prog) wr l Tryz.underlying9 Tryz.underlying57 Tryz.underlying5
      have hT2 : HT w2 := hT.below (below_of_none hg2 (Nat.le_refl _)) hT.1
      go_wp2
      go_loop [3, 17] (fun v i => ∃ j : Nat, j ≤ l.length ∧ i = .int .i64 j ∧ v = .int .i64 (Cc.run 4294967295 (l.take j) : Nat)) (fun _ i => l.length - (intOf i).toNat)
      case atStart => exact ⟨0, by omega, rfl, rfl⟩
      case round =>
        obtain ⟨j, hj, rfl, rfl⟩ := hrel
        by_cases hlt : j < l.length
        · have hc := hcells j hlt
          have hnx := Lib.hid (run_take_succ 4294967295 l j hlt)
          have hrl := Cc.run_lt (l.take j) (c := 4294967295) (by decide)
          have hb8 := l[j].toNat_lt
          have hst := fun W h => step_any (Cc.run 4294967295 (l.take j)) l[j].toNat hrl hb8 W h
          clear hcells
          go_wp2_with (go_at_call 138; refine (hst _ hT2).mono ?_; rintro e w3 ⟨rfl, rfl⟩)
          exact ⟨⟨j + 1, by omega, by go_num, by rw [hnx.out]⟩, by simp [intOf]; omega⟩
        · obtain rfl : j = l.length := by omega
          rw [List.take_of_length_le (Nat.le_refl _)]
          clear hcells
          go_wp2
          exact ⟨.inr ⟨rfl, rfl, hg2⟩, by simp [intOf]⟩
    · go_wp2
      go_ret
      exact ⟨rfl, hgr⟩
end Go.Proofs.YtlgbcogdogpihaaGreatDoor
namespace Pg
open Cp
def rest (id kind : Nat) (b : List UInt8) : List UInt8 := be 4 id ++ (be 1 kind ++ (be 1 0 ++ (be 2 b.length ++ ([0, 0, 0, 0] ++ (b ++ List.replicate (240 - b.length) 0)))))
theorem rest_length (id kind : Nat) (b : List UInt8) (h : b.length ≤ 240) : (rest id kind b).length = 252 := by
  unfold rest
  simp only [List.length_append, be_length, List.length_cons, List.length_nil, List.length_replicate]
  omega
def page (id kind : Nat) (b : List UInt8) : List UInt8 := be 4 (Cc.sum (rest id kind b)) ++ rest id kind b
theorem page_length (id kind : Nat) (b : List UInt8) (h : b.length ≤ 240) : (page id kind b).length = 256 := by
  unfold page; rw [List.length_append, be_length, rest_length id kind b h]
end Pg
