/- A slice of entries, a slice of the document's deltas that came in, opened to lists. The first lemma is the guide's own to copy (extra-structs). -/
import Derived.Test.YtknlcfiphkbbaaaDoorDiffLists
import Derived.Deep.Slices
import Derived.Deep.Fields
import Derived.ChangeSame
import Derived.ProofKit
namespace Go.Proofs.YtknlcfiphkbbaaaDoor
open Go.RowKit Go.ChangeShapes Go.WideShapes Go.Deep
section
variable {H : Type} {enc : TypeId × Value → H} {P : Program} {w : World} {base : Nat} {spare : Nat → Bool} {held : Bool}
theorem open_slice_fields {t e : TypeId} {fs : Array Field} {fuel : Nat} {cs : List Value} {x : DataW H × List MemPlace} (ht : P.underlying t = some (.slice e)) (he : P.underlying e = some (.struct fs))
    (hone : oneCellFields P fs = true) (hC : P.cellsOf e = fs.size) (h : DataW.trod enc P w base spare held fuel t cs = some x) :
    (cs = [.slice none 0 0] ∧ x = (.nil, [])) ∨
    ∃ (a : Addr) (len cap m : Nat) (D : Nat → DataW H) (Pl : Nat → List MemPlace), cs = [.slice (some a) len cap] ∧ base ≤ a.block ∧ len ≤ cap ∧ cap ≤ maxLen ∧ m = (if spare a.block then cap else len) ∧
      x = (.slice ((List.range len).map D) ((List.range (m - len)).map fun j => D (len + j)), MemPlace.row a (m * fs.size) ++ (List.range m).flatMap Pl) ∧
      ∀ i, i < m → ∃ (ys : List (DataW H × List MemPlace)) (n : Nat), D i = .agg (ys.map (·.1)) ∧ Pl i = ys.flatMap (·.2) ∧ ys.length = fs.size ∧
        ∀ (j : Nat) (f : Field), fs[j]? = some f → ∃ (v : Value) (y : DataW H × List MemPlace), w.cell? (a.add (i * fs.size + j)) = some v ∧ ys[j]? = some y ∧ DataW.trod enc P w base spare held n f.type [v] = some y := by
  rcases open_slice ht h with h0 | ⟨a, len, cap, m, n, D, Pl, hcs, hb, hl, hm, hmm, hx, hi⟩
  · exact .inl h0
  · refine .inr ⟨a, len, cap, m, D, Pl, hcs, hb, hl, hm, hmm, by rw [hC] at hx; exact hx, fun i him => ?_⟩
    obtain ⟨cs', hc, ht'⟩ := hi i him
    rw [hC] at hc
    obtain ⟨ys, n', hn', hy, hlen, hyl, hf⟩ := DataW.trod_struct he ht'
    obtain ⟨_, hcl, hat⟩ := World.cells?_some hc
    simp only [Prod.mk.injEq] at hy
    refine ⟨ys, n', hy.1, hy.2, hyl, fun j f hj => ?_⟩
    obtain ⟨ho, hk⟩ := hone_of hone j f hj
    have hjl : j < fs.size := (Array.getElem?_eq_some_iff.1 hj).1
    have hcell := hat j hjl
    have hv : cs'[j]? = some (cs'[j]'(by omega)) := List.getElem?_eq_getElem (by omega)
    have h1 := hf j f hj
    rw [ho, hk] at h1
    have hone' : (cs'.drop j).take 1 = [cs'[j]'(by omega)] := by
      rw [List.drop_eq_getElem_cons (by omega)]
      rfl
    rw [hone'] at h1
    have hys : ys[j]? = some (ys[j]'(by omega)) := List.getElem?_eq_getElem (by omega)
    refine ⟨_, _, ?_, hys, h1.trans hys⟩
    rw [← Go.Deep.add_add, hcell, hv]
end
section
variable {H : Type} {enc : TypeId × Value → H}
theorem open_ents {W : World} {A : Option Addr} {len cap : Nat} {d : DataW H} {p : List MemPlace} (h : DataW.Trod enc Tryd.prog W 0 (fun _ => true) true 22 (.slice A len cap) d p) :
    ∃ l : List Ent, l.length = len ∧ SV entE W A cap l := by
  obtain ⟨fuel, hf⟩ := h
  rcases open_slice_fields Tryd.underlying22 Tryd.underlying39 (by kernel_rfl) (by kernel_rfl) hf with ⟨hcs, _⟩ | ⟨a, len', cap', m, D, Pl, hcs, _, hl, hm, hmm, hx, hi⟩
  · simp [Value.cells] at hcs
    obtain ⟨rfl, rfl, rfl⟩ := hcs
    exact ⟨[], rfl, LS.nil_, Nat.le_refl _, fun _ => rfl⟩
  · simp [Value.cells] at hcs
    obtain ⟨rfl, rfl, rfl⟩ := hcs
    simp only [if_true] at hmm
    subst hmm
    have key : ∀ i, ∃ r : Ent, i < len → (W.cell? (a.add (i * 2)) = some (.string r.1) ∧ W.cell? (a.add (i * 2 + 1)) = some (.string r.2)) := by
      intro i
      by_cases hil : i < len
      · obtain ⟨ys, n, _, _, hys, hfld⟩ := hi i (by omega)
        obtain ⟨v0, y0, hc0, _, t0⟩ := hfld 0 _ rfl
        obtain ⟨v1, y1, hc1, _, t1⟩ := hfld 1 _ rfl
        obtain ⟨x0, e0, _⟩ := DataW.trod_string Tryd.underlying9 t0
        obtain ⟨x1, e1, _⟩ := DataW.trod_string Tryd.underlying9 t1
        simp at e0 e1
        subst e0 e1
        exact ⟨⟨x0, x1⟩, fun _ => ⟨hc0, hc1⟩⟩
      · exact ⟨⟨⟨#[]⟩, ⟨#[]⟩⟩, fun h => absurd h hil⟩
    obtain ⟨f, hfs⟩ : ∃ f : Nat → Ent, ∀ i, i < len → (W.cell? (a.add (i * 2)) = some (.string (f i).1) ∧ W.cell? (a.add (i * 2 + 1)) = some (.string (f i).2)) := ⟨fun i => Classical.choose (key i), fun i => Classical.choose_spec (key i)⟩
    clear key
    refine ⟨(List.range len).map f, by simp, ⟨entE.cells_length _, fun hpos => ⟨a, rfl, ?_, ?_⟩⟩, by simpa using hl, fun h => by cases h⟩
    · have := (hfs 0 (by simpa using hpos)).1
      have hb := World.block_lt_of_cell? W _ this
      rwa [block_of_add] at hb
    · intro j u hu
      have hjl : j < len * 2 := by
        have := (List.getElem?_eq_some_iff.1 hu).1
        rw [entE.cells_length] at this; simpa [entE] using this
      have h0 := entE.cells_at ((List.range len).map f) (j / 2) (by simp; omega) (j % 2) (by show j % 2 < 2; omega)
      have e : j / 2 * entE.size + j % 2 = j := by show j / 2 * 2 + j % 2 = j; omega
      rw [e, hu] at h0
      simp only [List.getElem_map, List.getElem_range] at h0
      have hs := hfs (j / 2) (by omega)
      have hm : j % 2 = 0 ∨ j % 2 = 1 := by omega
      rcases hm with hm | hm
      · rw [hm] at h0; injection h0 with h0; subst h0; rw [← hs.1, show j / 2 * 2 = j by omega]
      · rw [hm] at h0; injection h0 with h0; subst h0; rw [← hs.2, show j / 2 * 2 + 1 = j by omega]
theorem open_rdl {W : World} {A : Option Addr} {len cap : Nat} {d : DataW H} {p : List MemPlace} (h : DataW.Trod enc Tryd.prog W 0 (fun _ => true) true 23 (.slice A len cap) d p) :
    ∃ l : List Dl, l.length = len ∧ LS rdlE W W.heap.size A l := by
  obtain ⟨fuel, hf⟩ := h
  rcases open_slice_fields Tryd.underlying23 Tryd.underlying27 (by kernel_rfl) (by kernel_rfl) hf with ⟨hcs, _⟩ | ⟨a, len', cap', m, D, Pl, hcs, _, hl, hm, hmm, hx, hi⟩
  · simp [Value.cells] at hcs
    obtain ⟨rfl, rfl, rfl⟩ := hcs
    exact ⟨[], rfl, LS.nil_⟩
  · simp [Value.cells] at hcs
    obtain ⟨rfl, rfl, rfl⟩ := hcs
    simp only [if_true] at hmm
    subst hmm
    have key : ∀ i, ∃ r : Dl, i < len → ∀ j, j < 5 → W.cell? (a.add (i * 5 + j)) = (rdlE.enc r)[j]? := by
      intro i
      by_cases hil : i < len
      · obtain ⟨ys, n, _, _, hys, hfld⟩ := hi i (by omega)
        obtain ⟨v0, y0, hc0, _, t0⟩ := hfld 0 _ rfl
        obtain ⟨v1, y1, hc1, _, t1⟩ := hfld 1 _ rfl
        obtain ⟨v2, y2, hc2, _, t2⟩ := hfld 2 _ rfl
        obtain ⟨v3, y3, hc3, _, t3⟩ := hfld 3 _ rfl
        obtain ⟨v4, y4, hc4, _, t4⟩ := hfld 4 _ rfl
        obtain ⟨x0, e0, _⟩ := DataW.trod_string Tryd.underlying9 t0
        obtain ⟨x1, e1, _⟩ := DataW.trod_string Tryd.underlying9 t1
        obtain ⟨x2, e2, _⟩ := DataW.trod_string Tryd.underlying9 t2
        obtain ⟨x3, e3, _⟩ := DataW.trod_bool Tryd.underlying4 t3
        obtain ⟨x4, e4, _⟩ := DataW.trod_bool Tryd.underlying4 t4
        simp at e0 e1 e2 e3 e4
        subst e0 e1 e2 e3 e4
        refine ⟨⟨x0, x1, x2, x3, x4⟩, fun _ j hj => ?_⟩
        have hm : j = 0 ∨ j = 1 ∨ j = 2 ∨ j = 3 ∨ j = 4 := by omega
        rcases hm with rfl | rfl | rfl | rfl | rfl
        · exact hc0
        · exact hc1
        · exact hc2
        · exact hc3
        · exact hc4
      · exact ⟨⟨⟨#[]⟩, ⟨#[]⟩, ⟨#[]⟩, false, false⟩, fun h => absurd h hil⟩
    obtain ⟨f, hfs⟩ : ∃ f : Nat → Dl, ∀ i, i < len → ∀ j, j < 5 → W.cell? (a.add (i * 5 + j)) = (rdlE.enc (f i))[j]? := ⟨fun i => Classical.choose (key i), fun i => Classical.choose_spec (key i)⟩
    clear key
    refine ⟨(List.range len).map f, by simp, rdlE.cells_length _, fun hpos => ⟨a, rfl, ?_, ?_⟩⟩
    · have h0 := hfs 0 (by simpa using hpos) 0 (by omega)
      have hb := World.block_lt_of_cell? W _ (h0.trans rfl)
      rwa [block_of_add] at hb
    · intro j u hu
      have hjl : j < len * 5 := by
        have := (List.getElem?_eq_some_iff.1 hu).1
        rw [rdlE.cells_length] at this; simpa [rdlE] using this
      have h0 := rdlE.cells_at ((List.range len).map f) (j / 5) (by simp; omega) (j % 5) (by show j % 5 < 5; omega)
      have e : j / 5 * rdlE.size + j % 5 = j := by show j / 5 * 5 + j % 5 = j; omega
      rw [e, hu] at h0
      simp only [List.getElem_map, List.getElem_range] at h0
      have hs := hfs (j / 5) (by omega) (j % 5) (by omega)
      rw [← h0, show j / 5 * 5 + j % 5 = j by omega] at hs
      exact hs
end
end Go.Proofs.YtknlcfiphkbbaaaDoor
