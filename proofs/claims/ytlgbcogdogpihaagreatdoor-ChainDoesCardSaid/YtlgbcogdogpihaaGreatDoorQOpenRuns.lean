/- A slice of runs that came in, opened to a list of runs. The first part is the guide's own lemma to copy (extra-structs). -/
import Derived.Deep.Slices
import Derived.Deep.Fields
import Derived.ChangeSame
import Derived.ProofKit
import Derived.Test.YtlgbcogdogpihaaGreatDoorQGd
namespace Go.Proofs.YtlgbcogdogpihaaGreatDoor
open Go.RowKit Go.ChangeShapes Go.WideShapes Go.Deep
section
variable {H : Type} {enc : TypeId × Value → H} {P : Program} {w : World} {base : Nat} {spare : Nat → Bool} {held : Bool}
theorem open_slice_fields {t e : TypeId} {fs : Array Field} {fuel : Nat} {cs : List Value} {x : DataW H × List MemPlace} (ht : P.underlying t = some (.slice e)) (he : P.underlying e = some (.struct fs))
    (hone : oneCellFields P fs = true) (hC : P.cellsOf e = fs.size) (h : DataW.trod enc P w base spare held fuel t cs = some x) :
    (cs = [.slice none 0 0] ∧ x = (.nil, [])) ∨
    ∃ (a : Addr) (len cap m : Nat) (D : Nat → DataW H) (Pl : Nat → List MemPlace), cs = [.slice (some a) len cap] ∧ base ≤ a.block ∧ len ≤ cap ∧ cap ≤ maxLen ∧ m = (if spare a.block then cap else len) ∧
      x = (.slice ((List.range len).map D) ((List.range (m - len)).map fun j => D (len + j)), MemPlace.row a (m * fs.size) ++ (List.range m).flatMap Pl) ∧
      ∀ i, i < m → ∃ (ys : List (DataW H × List MemPlace)) (n : Nat), D i = .agg (ys.map (·.1)) ∧ Pl i = ys.flatMap (·.2) ∧ ys.length = fs.size ∧
        ∀ (j : Nat) (f : Field), fs[j]? = some f → ∃ (v : Value) (y : DataW H × List MemPlace), w.cell? (a.add (i * fs.size + j)) = some v ∧ ys[j]? = some y ∧ DataW.trod enc P w base spare held n f.type [v] = some y := by
  rcases open_slice ht h with h0 | ⟨a, len, cap, m, n, D, Pl, hcs, hb, hl, hm, hmm, hx, hi⟩
  · exact .inl h0
  · refine .inr ⟨a, len, cap, m, D, Pl, hcs, hb, hl, hm, hmm, by rw [hC] at hx; exact hx, fun i him => ?_⟩
    obtain ⟨cs', hc, ht'⟩ := hi i him
    rw [hC] at hc
    obtain ⟨ys, n', hn', hy, hlen, hyl, hf⟩ := DataW.trod_struct he ht'
    obtain ⟨_, hcl, hat⟩ := World.cells?_some hc
    simp only [Prod.mk.injEq] at hy
    refine ⟨ys, n', hy.1, hy.2, hyl, fun j f hj => ?_⟩
    obtain ⟨ho, hk⟩ := hone_of hone j f hj
    have hjl : j < fs.size := (Array.getElem?_eq_some_iff.1 hj).1
    have hcell := hat j hjl
    have hv : cs'[j]? = some (cs'[j]'(by omega)) := List.getElem?_eq_getElem (by omega)
    have h1 := hf j f hj
    rw [ho, hk] at h1
    have hone' : (cs'.drop j).take 1 = [cs'[j]'(by omega)] := by
      rw [List.drop_eq_getElem_cons (by omega)]
      rfl
    rw [hone'] at h1
    have hys : ys[j]? = some (ys[j]'(by omega)) := List.getElem?_eq_getElem (by omega)
    refine ⟨_, _, ?_, hys, h1.trans hys⟩
    rw [← Go.Deep.add_add, hcell, hv]
end

theorem wf_le {x : Int} (h : (Lit.int .i64 x).wf = true) : Wf64 x := by
  have hx : -9223372036854775808 ≤ x ∧ x ≤ 9223372036854775807 := by simpa [Lit.wf, IntKind.min, IntKind.max, IntKind.signed, IntKind.bits] using h
  exact hx.2
section
variable {H : Type} {enc : TypeId × Value → H}
theorem open_runs {W : World} {A : Option Addr} {len cap : Nat} {d : DataW H} {p : List MemPlace} (h : DataW.Trod enc Tryz.prog W 0 (fun _ => true) true 22 (.slice A len cap) d p) :
    ∃ l : List Run, l.length = len ∧ RS W W.heap.size A l ∧ ∀ k (hk : k < l.length), Wf64 l[k].1 ∧ Wf64 l[k].2 := by
  obtain ⟨fuel, hf⟩ := h
  rcases open_slice_fields Tryz.underlying22 Tryz.underlying62 (by kernel_rfl) (by kernel_rfl) hf with ⟨hcs, _⟩ | ⟨a, len', cap', m, D, Pl, hcs, _, hl, hm, hmm, hx, hi⟩
  · simp [Value.cells] at hcs
    obtain ⟨rfl, rfl, rfl⟩ := hcs
    exact ⟨[], rfl, RS.nil_, fun k hk => absurd hk (by simp)⟩
  · simp [Value.cells] at hcs
    obtain ⟨rfl, rfl, rfl⟩ := hcs
    simp only [if_true] at hmm
    subst hmm
    have key : ∀ i, ∃ r : Run, i < len → (W.cell? (a.add (i * 2)) = some (.int .i64 r.1) ∧ W.cell? (a.add (i * 2 + 1)) = some (.int .i64 r.2)) ∧ Wf64 r.1 ∧ Wf64 r.2 := by
      intro i
      by_cases hil : i < len
      · obtain ⟨ys, n, _, _, hys, hfld⟩ := hi i (by omega)
        obtain ⟨v0, y0, hc0, _, t0⟩ := hfld 0 _ rfl
        obtain ⟨v1, y1, hc1, _, t1⟩ := hfld 1 _ rfl
        obtain ⟨x0, e0, _, w0⟩ := DataW.trod_int Tryz.underlying3 t0
        obtain ⟨x1, e1, _, w1⟩ := DataW.trod_int Tryz.underlying3 t1
        simp at e0 e1
        subst e0 e1
        exact ⟨(x0, x1), fun _ => ⟨⟨hc0, hc1⟩, wf_le w0, wf_le w1⟩⟩
      · exact ⟨(0, 0), fun h => absurd h hil⟩
    obtain ⟨f, hfs⟩ : ∃ f : Nat → Run, ∀ i, i < len → (W.cell? (a.add (i * 2)) = some (.int .i64 (f i).1) ∧ W.cell? (a.add (i * 2 + 1)) = some (.int .i64 (f i).2)) ∧ Wf64 (f i).1 ∧ Wf64 (f i).2 := ⟨fun i => Classical.choose (key i), fun i => Classical.choose_spec (key i)⟩
    clear key
    refine ⟨(List.range len).map f, by simp, ?_, ?_⟩
    · refine ⟨by rw [cellsR_length], fun hpos => ⟨a, rfl, ?_, ?_⟩⟩
      · have := (hfs 0 (by simpa using hpos)).1.1
        have hb := World.block_lt_of_cell? W _ this
        rwa [block_of_add] at hb
      · intro j u hu
        have hjl : j < len * 2 := by
          have := (List.getElem?_eq_some_iff.1 hu).1
          rw [cellsR_length] at this; simpa using this
        have hlen : j / 2 < ((List.range len).map f).length := by simp; omega
        obtain ⟨g0, g1⟩ := cellsR_at _ (j / 2) hlen
        have hs := hfs (j / 2) (by omega)
        simp only [List.getElem_map, List.getElem_range] at g0 g1
        rcases Nat.mod_two_eq_zero_or_one j with hj | hj
        · have e : j / 2 * 2 = j := by omega
          rw [e] at g0
          rw [g0] at hu
          injection hu with hu
          rw [← hu]
          have := hs.1.1
          rwa [e] at this
        · have e : j / 2 * 2 + 1 = j := by omega
          rw [e] at g1
          rw [g1] at hu
          injection hu with hu
          rw [← hu]
          have := hs.1.2
          rwa [e] at this
    · intro k hk
      simp only [List.getElem_map, List.getElem_range]
      exact (hfs k (by simpa using hk)).2
end
end Go.Proofs.YtlgbcogdogpihaaGreatDoor
