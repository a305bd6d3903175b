/- A slice of structs that came in, opened. The guide's own lemma to copy (extra-structs). A slice of a tree's acts that came in, opened to a list. What the row lists of crc's table, as cells. -/
import Derived.Deep.Slices
import Derived.Deep.Fields
import Derived.ChangeSame
import Derived.ProofKit
import Derived.LaidMore
import Derived.Lay
import Derived.OpenShut
import Derived.Test.YtpfplojkiloldaaGreatDoorQ00
import Derived.Test.YtpfplojkiloldaaGreatDoorQ25
import Derived.Test.YtpfplojkiloldaaGreatDoorQ43
import Derived.Test.YtpfplojkiloldaaGreatDoorRows
namespace Go.Proofs.YtpfplojkiloldaaGreatDoor
open Go.RowKit Go.ChangeShapes Go.WideShapes Go.Deep
section
variable {H : Type} {enc : TypeId × Value → H} {P : Program} {w : World} {base : Nat} {spare : Nat → Bool} {held : Bool}
theorem open_slice_fields {t e : TypeId} {fs : Array Field} {fuel : Nat} {cs : List Value} {x : DataW H × List MemPlace} (ht : P.underlying t = some (.slice e)) (he : P.underlying e = some (.struct fs))
    (hone : oneCellFields P fs = true) (hC : P.cellsOf e = fs.size) (h : DataW.trod enc P w base spare held fuel t cs = some x) :
    (cs = [.slice none 0 0] ∧ x = (.nil, [])) ∨
    ∃ (a : Addr) (len cap m : Nat) (D : Nat → DataW H) (Pl : Nat → List MemPlace), cs = [.slice (some a) len cap] ∧ base ≤ a.block ∧ len ≤ cap ∧ cap ≤ maxLen ∧ m = (if spare a.block then cap else len) ∧
      x = (.slice ((List.range len).map D) ((List.range (m - len)).map fun j => D (len + j)), MemPlace.row a (m * fs.size) ++ (List.range m).flatMap Pl) ∧
      ∀ i, i < m → ∃ (ys : List (DataW H × List MemPlace)) (n : Nat), D i = .agg (ys.map (·.1)) ∧ Pl i = ys.flatMap (·.2) ∧ ys.length = fs.size ∧
        ∀ (j : Nat) (f : Field), fs[j]? = some f → ∃ (v : Value) (y : DataW H × List MemPlace), w.cell? (a.add (i * fs.size + j)) = some v ∧ ys[j]? = some y ∧ DataW.trod enc P w base spare held n f.type [v] = some y := by
  rcases open_slice ht h with h0 | ⟨a, len, cap, m, n, D, Pl, hcs, hb, hl, hm, hmm, hx, hi⟩
  · exact .inl h0
  · refine .inr ⟨a, len, cap, m, D, Pl, hcs, hb, hl, hm, hmm, by rw [hC] at hx; exact hx, fun i him => ?_⟩
    obtain ⟨cs', hc, ht'⟩ := hi i him
    rw [hC] at hc
    obtain ⟨ys, n', hn', hy, hlen, hyl, hf⟩ := DataW.trod_struct he ht'
    obtain ⟨_, hcl, hat⟩ := World.cells?_some hc
    simp only [Prod.mk.injEq] at hy
    refine ⟨ys, n', hy.1, hy.2, hyl, fun j f hj => ?_⟩
    obtain ⟨ho, hk⟩ := hone_of hone j f hj
    have hjl : j < fs.size := (Array.getElem?_eq_some_iff.1 hj).1
    have hcell := hat j hjl
    have hv : cs'[j]? = some (cs'[j]'(by omega)) := List.getElem?_eq_getElem (by omega)
    have h1 := hf j f hj
    rw [ho, hk] at h1
    have hone' : (cs'.drop j).take 1 = [cs'[j]'(by omega)] := by
      rw [List.drop_eq_getElem_cons (by omega)]
      rfl
    rw [hone'] at h1
    have hys : ys[j]? = some (ys[j]'(by omega)) := List.getElem?_eq_getElem (by omega)
    refine ⟨_, _, ?_, hys, h1.trans hys⟩
    rw [← Go.Deep.add_add, hcell, hv]
end

theorem wf_hi {x : Int} (h : (Lit.int .i64 x).wf = true) : -9223372036854775808 ≤ x ∧ x ≤ 9223372036854775807 := by
  simpa [Lit.wf, IntKind.min, IntKind.max, IntKind.signed, IntKind.bits] using h
end Go.Proofs.YtpfplojkiloldaaGreatDoor
namespace Go.Proofs.YtpfplojkiloldaaGreatDoor
open Go.RowKit Go.ChangeShapes Go.WideShapes Go.Deep
section
variable {H : Type} {enc : TypeId × Value → H}
theorem open_tacts {W : World} {A : Option Addr} {len cap : Nat} {d : DataW H} {p : List MemPlace} (h : DataW.Trod enc Tryz.prog W 0 (fun _ => true) true 22 (.slice A len cap) d p) :
    ∃ l : List TAct, l.length = len ∧ LS tactE W W.heap.size A l ∧ ∀ x ∈ l, (Lit.int .i64 x.1).wf = true := by
  obtain ⟨fuel, hf⟩ := h
  rcases open_slice_fields Tryz.underlying22 Tryz.underlying29 (by kernel_rfl) (by kernel_rfl) hf with ⟨hcs, _⟩ | ⟨a, len', cap', m, D, Pl, hcs, _, hl, hm, hmm, hx, hi⟩
  · simp [Value.cells] at hcs
    obtain ⟨rfl, rfl, rfl⟩ := hcs
    exact ⟨[], rfl, LS.nil_, fun x hx => by cases hx⟩
  · simp [Value.cells] at hcs
    obtain ⟨rfl, rfl, rfl⟩ := hcs
    simp only [if_true] at hmm
    subst hmm
    have key : ∀ i, ∃ r : TAct, i < len → (W.cell? (a.add (i * 3)) = some (.int .i64 r.1) ∧ W.cell? (a.add (i * 3 + 1)) = some (.string r.2.1) ∧ W.cell? (a.add (i * 3 + 2)) = some (.string r.2.2)) ∧ (Lit.int .i64 r.1).wf = true := by
      intro i
      by_cases hil : i < len
      · obtain ⟨ys, n, _, _, hys, hfld⟩ := hi i (by omega)
        obtain ⟨v0, y0, hc0, _, t0⟩ := hfld 0 _ rfl
        obtain ⟨v1, y1, hc1, _, t1⟩ := hfld 1 _ rfl
        obtain ⟨v2, y2, hc2, _, t2⟩ := hfld 2 _ rfl
        obtain ⟨x0, e0, _, w0⟩ := DataW.trod_int Tryz.underlying3 t0
        obtain ⟨x1, e1, _⟩ := DataW.trod_string Tryz.underlying9 t1
        obtain ⟨x2, e2, _⟩ := DataW.trod_string Tryz.underlying9 t2
        simp at e0 e1 e2
        subst e0 e1 e2
        exact ⟨⟨x0, x1, x2⟩, fun _ => ⟨⟨hc0, hc1, hc2⟩, w0⟩⟩
      · exact ⟨⟨0, ⟨#[]⟩, ⟨#[]⟩⟩, fun h => absurd h hil⟩
    obtain ⟨f, hfs⟩ : ∃ f : Nat → TAct, ∀ i, i < len → (W.cell? (a.add (i * 3)) = some (.int .i64 (f i).1) ∧ W.cell? (a.add (i * 3 + 1)) = some (.string (f i).2.1) ∧ W.cell? (a.add (i * 3 + 2)) = some (.string (f i).2.2)) ∧ (Lit.int .i64 (f i).1).wf = true := ⟨fun i => Classical.choose (key i), fun i => Classical.choose_spec (key i)⟩
    clear key
    refine ⟨(List.range len).map f, by simp, ⟨tactE.cells_length _, fun hpos => ⟨a, rfl, ?_, ?_⟩⟩, ?_⟩
    · have := (hfs 0 (by simpa using hpos)).1.1
      have hb := World.block_lt_of_cell? W _ this
      rwa [block_of_add] at hb
    · intro j u hu
      have hjl : j < len * 3 := by
        have := (List.getElem?_eq_some_iff.1 hu).1
        rw [tactE.cells_length] at this; simpa [tactE] using this
      have h0 := tactE.cells_at ((List.range len).map f) (j / 3) (by simp; omega) (j % 3) (by show j % 3 < 3; omega)
      have e : j / 3 * tactE.size + j % 3 = j := by show j / 3 * 3 + j % 3 = j; omega
      rw [e, hu] at h0
      simp only [List.getElem_map, List.getElem_range] at h0
      have hs := (hfs (j / 3) (by omega)).1
      have hm : j % 3 = 0 ∨ j % 3 = 1 ∨ j % 3 = 2 := by omega
      rcases hm with hm | hm | hm
      · rw [hm] at h0; injection h0 with h0; subst h0; rw [← hs.1, show j / 3 * 3 = j by omega]
      · rw [hm] at h0; injection h0 with h0; subst h0; rw [← hs.2.1, show j / 3 * 3 + 1 = j by omega]
      · rw [hm] at h0; injection h0 with h0; subst h0; rw [← hs.2.2, show j / 3 * 3 + 2 = j by omega]
    · intro x hx
      obtain ⟨i, hi', rfl⟩ := List.mem_map.1 hx
      exact (hfs i (List.mem_range.1 hi')).2
end
end Go.Proofs.YtpfplojkiloldaaGreatDoor
namespace Go.Proofs.YtpfplojkiloldaaGreatDoor
open Go.ChangeShapes Go.WideShapes Go.ChangeAt Go.RowKit
def laid3 : List (String × DataW Unit) := [("rootstock/crc.halves", Rows.laid_rootstock_crc_halves), ("unicode/utf8.acceptRanges", Rows.laid_unicode_utf8_acceptRanges), ("unicode/utf8.first", Rows.laid_unicode_utf8_first)]
theorem halves_hv : (Rows.laid_rootstock_crc_halves : DataW Unit) = .agg (Cc.hv.map fun n : Nat => .lit (.int .u32 (n : Int))) := by kernel_rfl
theorem ht_of {W : World} (h : laidMetH Tryz.prog laid3 W) : HT W := by
  rw [MakeChecks.laidMetH_plain _ _ _ (by kernel_rfl)] at h
  obtain ⟨ps, ⟨g, t, cs, fuel, p, q, hg, ht, hv, hd, _, _⟩, _⟩ := h
  obtain rfl := Option.some.inj ((show Tryz.prog.globalNamed "rootstock/crc.halves" = some 0 by kernel_rfl).symm.trans hg)
  obtain rfl := Option.some.inj ((show (Tryz.prog.globals[0]?).map (·.type) = some 229 by kernel_rfl).symm.trans ht)
  obtain ⟨xs, m, _, ex, _, hl, hel⟩ := DataW.trod_array Tryz.underlying229 hd
  have hc : ∀ r, r < 16 → W.cell? ⟨0, r, none⟩ = some (.int .u32 ((Cc.hv.getD r 0 : Nat) : Int)) := by
    intro r hr
    have c5 : Tryz.prog.cellsOf 192 = 1 := by kernel_rfl
    have hE := hel r hr
    rw [c5, Nat.mul_one, List.getElem?_eq_getElem (by omega)] at hE
    obtain ⟨z, e1, e2, _⟩ := DataW.trod_int Tryz.underlying192 hE
    have hlen : Cc.hv.length = 16 := by decide
    rw [halves_hv] at ex
    have e3 : (xs.map (·.1)) = Cc.hv.map fun n : Nat => (DataW.lit (.int .u32 (n : Int)) : DataW Unit) := (DataW.agg.inj (Prod.mk.inj ex).1).symm
    have e4 : (xs.map (·.1))[r]? = (Cc.hv.map fun n : Nat => (DataW.lit (.int .u32 (n : Int)) : DataW Unit))[r]? := by rw [e3]
    rw [List.getElem?_map, List.getElem?_map, List.getElem?_eq_getElem (by omega : r < xs.length), List.getElem?_eq_getElem (by omega : r < Cc.hv.length), e2] at e4
    have hz : z = ((Cc.hv.getD r 0 : Nat) : Int) := by
      simp only [Option.map_some, Option.some.injEq, DataW.lit.injEq, Lit.int.injEq, true_and] at e4
      rw [e4, List.getD, List.getElem?_eq_getElem (by omega : r < Cc.hv.length)]; rfl
    rw [World.var?_cell hg hv r, ← hz]
    have : cs.toList[r]? = some (.int .u32 z) := by
      have h0 : ((cs.toList.drop r).take 1)[0]? = some (.int .u32 z) := by rw [e1]; rfl
      simpa using h0
    simpa using this
  exact ⟨World.block_lt_of_cell? W _ (hc 0 (by decide)), hc⟩
end Go.Proofs.YtpfplojkiloldaaGreatDoor
