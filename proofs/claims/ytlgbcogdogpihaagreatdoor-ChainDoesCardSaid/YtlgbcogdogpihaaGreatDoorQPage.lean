/- The walks of page.put, codec.Join, page.Seal. -/
import Derived.Shelf.Strings.OnBuilder
import Derived.Shelf.Strings.Trim
import Derived.Test.YtlgbcogdogpihaaGreatDoorQGh
import Derived.Test.YtlgbcogdogpihaaGreatDoorQGd
import Derived.Test.YtlgbcogdogpihaaGreatDoorQStrLay
namespace Go.Proofs.YtlgbcogdogpihaaGreatDoor
open Go.RowKit Go.Shelf
theorem builderY : Builder.Extra Tryz.prog Tryz.lays156_ren where
  sizeBuilder := by kernel_rfl
  liesBuilder := by kernel_rfl
  t5 := Tryz.underlying5
  a5 := Tryz.isAgg5
  z5 := Tryz.sizeOf5
  v5 := Tryz.zeroValue5
  infoByte := by kernel_rfl
  cellsByte := by kernel_rfl
  sizeByte := by kernel_rfl
  neB5 := by decide
theorem sjoin_any (bk c : Nat) (xs : List ByteArray) (w : World) (hcells : ∀ (j : Nat) x, xs[j]? = some x → w.cell? ⟨bk, 0 + j, none⟩ = some (.string x)) (hbk : bk < w.heap.size) (hN : xs.length ≤ 140737488355328) (hcap : xs.length ≤ c)
    (hlen : (Lib.join (xs.map (·.data.toList)) (⟨#[]⟩ : ByteArray).data.toList).length ≤ 140737488355328) :
    Calls Tryz.prog 137 #[.slice (some ⟨bk, 0, none⟩) xs.length c, .string ⟨#[]⟩] w fun e w' => e = .returned (.string ⟨(Lib.join (xs.map (·.data.toList)) (⟨#[]⟩ : ByteArray).data.toList).toArray⟩) ∧ Below w.heap.size w w' :=
  Any.strings_Join Tryz.lays156 builderY bk 0 c xs ⟨#[]⟩ w hcells hbk hN hcap hlen
theorem trim_any (l : List UInt8) (w : World) (hl : l.length ≤ 1000000) :
    Calls Tryz.prog 115 #[.string ⟨l.toArray⟩, .string ⟨#[0]⟩] w fun e w' => e = .returned (.string ⟨(Lib.trimB l 0).toArray⟩) ∧ (w' = w ∨ w' = w.drew) :=
  Any.strings_Trim_one Tryz.lays160 ⟨l.toArray⟩ 0 (by decide) w (by show l.toArray.size ≤ _; simp; omega)
theorem join_empty (x : List UInt8) (xs : List (List UInt8)) : Lib.join (x :: xs) [] = x ++ Lib.join xs [] := by
  cases xs with
  | nil => simp [Lib.join, List.intercalate]
  | cons y ys => simp [Lib.join, List.intercalate]
/-- seven strings in a row, joined -/
theorem join7_any (g : Nat) (a b c d e f h : List UInt8) (w : World)
    (g0 : w.cell? ⟨g, 0, none⟩ = some (.string ⟨a.toArray⟩)) (g1 : w.cell? ⟨g, 1, none⟩ = some (.string ⟨b.toArray⟩)) (g2 : w.cell? ⟨g, 2, none⟩ = some (.string ⟨c.toArray⟩)) (g3 : w.cell? ⟨g, 3, none⟩ = some (.string ⟨d.toArray⟩)) (g4 : w.cell? ⟨g, 4, none⟩ = some (.string ⟨e.toArray⟩)) (g5 : w.cell? ⟨g, 5, none⟩ = some (.string ⟨f.toArray⟩)) (g6 : w.cell? ⟨g, 6, none⟩ = some (.string ⟨h.toArray⟩))
    (hlen : (a ++ (b ++ (c ++ (d ++ (e ++ (f ++ h)))))).length ≤ 1000000) :
    Calls Tryz.prog 96 #[.slice (some ⟨g, 0, none⟩) 7 7] w fun r w' => r = .returned (.string ⟨(a ++ (b ++ (c ++ (d ++ (e ++ (f ++ h)))))).toArray⟩) ∧ Below w.heap.size w w' := by
  have hbk := World.block_lt_of_cell? w _ g0
  have hj : Lib.join (List.map (fun x : ByteArray => x.data.toList) [⟨a.toArray⟩, ⟨b.toArray⟩, ⟨c.toArray⟩, ⟨d.toArray⟩, ⟨e.toArray⟩, ⟨f.toArray⟩, ⟨h.toArray⟩]) [] = a ++ (b ++ (c ++ (d ++ (e ++ (f ++ h))))) := by
    simp only [List.map_cons, List.map_nil]
    simp only [join_empty]
    simp [Lib.join]
  have hc := sjoin_any g 7 [⟨a.toArray⟩, ⟨b.toArray⟩, ⟨c.toArray⟩, ⟨d.toArray⟩, ⟨e.toArray⟩, ⟨f.toArray⟩, ⟨h.toArray⟩] w (by
    intro j x hx
    rw [Nat.zero_add]
    match j, hx with
    | 0, hx => simp at hx; subst hx; exact g0
    | 1, hx => simp at hx; subst hx; exact g1
    | 2, hx => simp at hx; subst hx; exact g2
    | 3, hx => simp at hx; subst hx; exact g3
    | 4, hx => simp at hx; subst hx; exact g4
    | 5, hx => simp at hx; subst hx; exact g5
    | 6, hx => simp at hx; subst hx; exact g6
    | j + 7, hx => simp at hx) hbk (by simp) (by simp) (by
    show (Lib.join _ []).length ≤ _
    rw [hj]; omega)
  change Calls Tryz.prog 137 #[.slice (some ⟨g, 0, none⟩) 7 7, .string ⟨#[]⟩] w fun r w' => r = .returned (.string ⟨(Lib.join _ []).toArray⟩) ∧ Below w.heap.size w w' at hc
  rw [hj] at hc
  generalize a ++ (b ++ (c ++ (d ++ (e ++ (f ++ h))))) = R at *
  go_enter Tryz.func96, Tryz.ntmps96
  go_wp2_with (go_at_call 137; refine hc.mono ?_; rintro r w1 ⟨rfl, hb⟩)
  go_ret
  exact ⟨rfl, hb⟩
theorem fits_of {k : Nat} {n : Int} (h0 : 0 ≤ n) (h1 : n < (256 ^ k : Nat)) : Cp.fits k n = true := by unfold Cp.fits; simp only [Bool.and_eq_true, decide_eq_true_eq]; exact ⟨h0, h1⟩
theorem pput1_any (n : Nat) (h : n < 256) (w : World) : Calls Tryz.prog 97 #[.int .i64 1, .int .i64 n] w fun e w' => e = .returned (.string ⟨(Cp.be 1 n).toArray⟩) ∧ Below w.heap.size w w' := by
  have hp := put1_fits n w (by omega) (by omega)
  rw [Int.toNat_natCast] at hp
  generalize Cp.be 1 n = S at *
  go_enter Tryz.func97, Tryz.ntmps97
  go_wp2_with (go_at_call 74; refine hp.mono ?_; rintro e w1 ⟨rfl, hb⟩)
  go_ret
  exact ⟨rfl, hb⟩
theorem pput2_any (n : Nat) (h : n < 65536) (w : World) : Calls Tryz.prog 97 #[.int .i64 2, .int .i64 n] w fun e w' => e = .returned (.string ⟨(Cp.be 2 n).toArray⟩) ∧ Below w.heap.size w w' := by
  have hp := put2_fits n w (by omega) (by omega)
  rw [Int.toNat_natCast] at hp
  generalize Cp.be 2 n = S at *
  go_enter Tryz.func97, Tryz.ntmps97
  go_wp2_with (go_at_call 74; refine hp.mono ?_; rintro e w1 ⟨rfl, hb⟩)
  go_ret
  exact ⟨rfl, hb⟩
theorem pput4_any (n : Nat) (h : n < 4294967296) (w : World) : Calls Tryz.prog 97 #[.int .i64 4, .int .i64 n] w fun e w' => e = .returned (.string ⟨(Cp.be 4 n).toArray⟩) ∧ Below w.heap.size w w' := by
  have hp := put4_fits n w (by omega) (by omega)
  rw [Int.toNat_natCast] at hp
  generalize Cp.be 4 n = S at *
  go_enter Tryz.func97, Tryz.ntmps97
  go_wp2_with (go_at_call 74; refine hp.mono ?_; rintro e w1 ⟨rfl, hb⟩)
  go_ret
  exact ⟨rfl, hb⟩
end Go.Proofs.YtlgbcogdogpihaaGreatDoor
