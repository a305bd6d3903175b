/- A slice of acts that came in, opened to a list. -/
import Derived.Test.YtknlcfiphkbbaaaApart
namespace Go.Proofs.Ytknlcfiphkbbaaa
open Go.RowKit Go.ChangeShapes Go.WideShapes Go.Deep
section
variable {H : Type} {enc : TypeId × Value → H}
theorem open_acts {W : World} {A : Option Addr} {len cap : Nat} {d : DataW H} {p : List MemPlace} (h : DataW.Trod enc Try.prog W 0 (fun _ => true) true 53 (.slice A len cap) d p) :
    ∃ l : List ActG, l.length = len ∧ LS actE W W.heap.size A l ∧ ∀ x ∈ l, (Lit.int .i64 x.k).wf = true ∧ (Lit.int .i64 x.id).wf = true := by
  obtain ⟨fuel, hf⟩ := h
  rcases open_slice_fields Try.underlying53 Try.underlying59 (by kernel_rfl) (by kernel_rfl) hf with ⟨hcs, _⟩ | ⟨a, len', cap', m, D, Pl, hcs, _, hl, hm, hmm, hx, hi⟩
  · simp [Value.cells] at hcs
    obtain ⟨rfl, rfl, rfl⟩ := hcs
    exact ⟨[], rfl, LS.nil_, fun x hx => by cases hx⟩
  · simp [Value.cells] at hcs
    obtain ⟨rfl, rfl, rfl⟩ := hcs
    simp only [if_true] at hmm
    subst hmm
    have key : ∀ i, ∃ r : ActG, i < len → (W.cell? (a.add (i * 4)) = some (.int .i64 r.k) ∧ W.cell? (a.add (i * 4 + 1)) = some (.int .i64 r.id) ∧ W.cell? (a.add (i * 4 + 2)) = some (.int .u8 r.kind) ∧ W.cell? (a.add (i * 4 + 3)) = some (.string r.body)) ∧ (Lit.int .i64 r.k).wf = true ∧ (Lit.int .i64 r.id).wf = true := by
      intro i
      by_cases hil : i < len
      · obtain ⟨ys, n, _, _, hys, hfld⟩ := hi i (by omega)
        obtain ⟨v0, y0, hc0, _, t0⟩ := hfld 0 _ rfl
        obtain ⟨v1, y1, hc1, _, t1⟩ := hfld 1 _ rfl
        obtain ⟨v2, y2, hc2, _, t2⟩ := hfld 2 _ rfl
        obtain ⟨v3, y3, hc3, _, t3⟩ := hfld 3 _ rfl
        obtain ⟨x0, e0, _, w0⟩ := DataW.trod_int Try.underlying3 t0
        obtain ⟨x1, e1, _, w1⟩ := DataW.trod_int Try.underlying3 t1
        obtain ⟨x2, e2, _, w2⟩ := DataW.trod_int Try.underlying57 t2
        obtain ⟨x3, e3, _⟩ := DataW.trod_string Try.underlying9 t3
        simp at e0 e1 e2 e3
        subst e0 e1 e2 e3
        exact ⟨⟨x0, x1, x2, x3⟩, fun _ => ⟨⟨hc0, hc1, hc2, hc3⟩, w0, w1⟩⟩
      · exact ⟨⟨0, 0, 0, ⟨#[]⟩⟩, fun h => absurd h hil⟩
    obtain ⟨f, hfs⟩ : ∃ f : Nat → ActG, ∀ i, i < len → (W.cell? (a.add (i * 4)) = some (.int .i64 (f i).k) ∧ W.cell? (a.add (i * 4 + 1)) = some (.int .i64 (f i).id) ∧ W.cell? (a.add (i * 4 + 2)) = some (.int .u8 (f i).kind) ∧ W.cell? (a.add (i * 4 + 3)) = some (.string (f i).body)) ∧ (Lit.int .i64 (f i).k).wf = true ∧ (Lit.int .i64 (f i).id).wf = true := ⟨fun i => Classical.choose (key i), fun i => Classical.choose_spec (key i)⟩
    clear key
    refine ⟨(List.range len).map f, by simp, ⟨actE.cells_length _, fun hpos => ⟨a, rfl, ?_, ?_⟩⟩, ?_⟩
    · have := (hfs 0 (by simpa using hpos)).1.1
      have hb := World.block_lt_of_cell? W _ this
      rwa [block_of_add] at hb
    · intro j u hu
      have hjl : j < len * 4 := by
        have := (List.getElem?_eq_some_iff.1 hu).1
        rw [actE.cells_length] at this; simpa [actE] using this
      have h0 := actE.cells_at ((List.range len).map f) (j / 4) (by simp; omega) (j % 4) (by show j % 4 < 4; omega)
      have e : j / 4 * actE.size + j % 4 = j := by show j / 4 * 4 + j % 4 = j; omega
      rw [e, hu] at h0
      simp only [List.getElem_map, List.getElem_range] at h0
      have hs := (hfs (j / 4) (by omega)).1
      have hm : j % 4 = 0 ∨ j % 4 = 1 ∨ j % 4 = 2 ∨ j % 4 = 3 := by omega
      rcases hm with hm | hm | hm | hm
      · rw [hm] at h0; injection h0 with h0; subst h0; rw [← hs.1, show j / 4 * 4 = j by omega]
      · rw [hm] at h0; injection h0 with h0; subst h0; rw [← hs.2.1, show j / 4 * 4 + 1 = j by omega]
      · rw [hm] at h0; injection h0 with h0; subst h0; rw [← hs.2.2.1, show j / 4 * 4 + 2 = j by omega]
      · rw [hm] at h0; injection h0 with h0; subst h0; rw [← hs.2.2.2, show j / 4 * 4 + 3 = j by omega]
    · intro x hx
      obtain ⟨i, hi', rfl⟩ := List.mem_map.1 hx
      exact (hfs i (List.mem_range.1 hi')).2
end
end Go.Proofs.Ytknlcfiphkbbaaa
