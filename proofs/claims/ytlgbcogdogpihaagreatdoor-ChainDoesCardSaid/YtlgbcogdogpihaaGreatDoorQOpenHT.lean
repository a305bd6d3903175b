/- What the row lists of crc's table, as cells. -/
import Derived.ProofKit
import Derived.LaidMore
import Derived.Lay
import Derived.OpenShut
import Derived.Test.YtlgbcogdogpihaaGreatDoorQGh
import Derived.Test.YtlgbcogdogpihaaGreatDoorRows
namespace Go.Proofs.YtlgbcogdogpihaaGreatDoor
open Go.ChangeShapes Go.WideShapes Go.ChangeAt Go.RowKit
def laid3 : List (String × DataW Unit) := [("rootstock/crc.halves", Rows.laid_rootstock_crc_halves), ("unicode/utf8.acceptRanges", Rows.laid_unicode_utf8_acceptRanges), ("unicode/utf8.first", Rows.laid_unicode_utf8_first)]
theorem halves_hv : (Rows.laid_rootstock_crc_halves : DataW Unit) = .agg (Cc.hv.map fun n : Nat => .lit (.int .u32 (n : Int))) := by kernel_rfl
theorem ht_of {W : World} (h : laidMetH Tryz.prog laid3 W) : HT W := by
  rw [MakeChecks.laidMetH_plain _ _ _ (by kernel_rfl)] at h
  obtain ⟨ps, ⟨g, t, cs, fuel, p, q, hg, ht, hv, hd, _, _⟩, _⟩ := h
  obtain rfl := Option.some.inj ((show Tryz.prog.globalNamed "rootstock/crc.halves" = some 0 by kernel_rfl).symm.trans hg)
  obtain rfl := Option.some.inj ((show (Tryz.prog.globals[0]?).map (·.type) = some 222 by kernel_rfl).symm.trans ht)
  obtain ⟨xs, m, _, ex, _, hl, hel⟩ := DataW.trod_array Tryz.underlying222 hd
  have hc : ∀ r, r < 16 → W.cell? ⟨0, r, none⟩ = some (.int .u32 ((Cc.hv.getD r 0 : Nat) : Int)) := by
    intro r hr
    have c5 : Tryz.prog.cellsOf 178 = 1 := by kernel_rfl
    have hE := hel r hr
    rw [c5, Nat.mul_one, List.getElem?_eq_getElem (by omega)] at hE
    obtain ⟨z, e1, e2, _⟩ := DataW.trod_int Tryz.underlying178 hE
    have hlen : Cc.hv.length = 16 := by decide
    rw [halves_hv] at ex
    have e3 : (xs.map (·.1)) = Cc.hv.map fun n : Nat => (DataW.lit (.int .u32 (n : Int)) : DataW Unit) := (DataW.agg.inj (Prod.mk.inj ex).1).symm
    have e4 : (xs.map (·.1))[r]? = (Cc.hv.map fun n : Nat => (DataW.lit (.int .u32 (n : Int)) : DataW Unit))[r]? := by rw [e3]
    rw [List.getElem?_map, List.getElem?_map, List.getElem?_eq_getElem (by omega : r < xs.length), List.getElem?_eq_getElem (by omega : r < Cc.hv.length), e2] at e4
    have hz : z = ((Cc.hv.getD r 0 : Nat) : Int) := by
      simp only [Option.map_some, Option.some.injEq, DataW.lit.injEq, Lit.int.injEq, true_and] at e4
      rw [e4, List.getD, List.getElem?_eq_getElem (by omega : r < Cc.hv.length)]; rfl
    rw [World.var?_cell hg hv r, ← hz]
    have : cs.toList[r]? = some (.int .u32 z) := by
      have h0 : ((cs.toList.drop r).take 1)[0]? = some (.int .u32 z) := by rw [e1]; rfl
      simpa using h0
    simpa using this
  exact ⟨World.block_lt_of_cell? W _ (hc 0 (by decide)), hc⟩
end Go.Proofs.YtlgbcogdogpihaaGreatDoor
