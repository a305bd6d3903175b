/- A slice of acts on chains that came in, opened to a list. -/
import Derived.Test.YtlgbcogdogpihaaGreatDoorQOpenInts
import Derived.Test.YtlgbcogdogpihaaGreatDoorQGa
import Derived.Test.YtlgbcogdogpihaaGreatDoorQGl
namespace Go.Proofs.YtlgbcogdogpihaaGreatDoor
open Go.RowKit Go.ChangeShapes Go.WideShapes Go.Deep
structure CAct where
  k : Int
  A1 : Option Addr
  n1 : Nat
  c1 : Nat
  A2 : Option Addr
  n2 : Nat
  c2 : Nat
  head : Int
  body : ByteArray
def cactE : Enc CAct := ⟨fun x => [.int .i64 x.k, .slice x.A1 x.n1 x.c1, .slice x.A2 x.n2 x.c2, .int .i64 x.head, .string x.body], 5, fun _ => rfl, by decide, fun x u hu => by simp at hu; rcases hu with rfl | rfl | rfl | rfl | rfl <;> rfl⟩
/-- what an act's slices read as -/
structure CActAt (W : World) (B : Nat) (x : CAct) : Prop where
  runs : ∃ l : List Run, l.length = x.n1 ∧ RS W B x.A1 l
  ids : ∃ l : List Int, l.length = x.n2 ∧ LS intE W B x.A2 l ∧ ∀ y ∈ l, Wf64 y
  wk : (Lit.int .i64 x.k).wf = true
  wh : (Lit.int .i64 x.head).wf = true
theorem ints_cells (l : List Int) : intE.cells l = l.map encI := by
  induction l with
  | nil => rfl
  | cons a l ih => rw [Enc.cells_cons, ih]; rfl
theorem RI.ls {w : World} {B : Nat} {A : Option Addr} {l : List Int} (h : RI w B A l) : LS intE w B A l := by
  unfold LS
  rw [ints_cells]
  exact h
section
variable {H : Type} {enc : TypeId × Value → H}
theorem trod_of_slice {t e : TypeId} {fuel : Nat} {W : World} {v : Value} {y : DataW H × List MemPlace} (ht : Tryz.prog.underlying t = some (.slice e)) (h : DataW.trod enc Tryz.prog W 0 (fun _ => true) true fuel t [v] = some y) :
    ∃ A len cap, v = .slice A len cap ∧ DataW.Trod enc Tryz.prog W 0 (fun _ => true) true t (.slice A len cap) y.1 y.2 := by
  rcases open_slice ht h with ⟨hcs, hx⟩ | ⟨a, len, cap, m, n, D, Pl, hcs, _⟩
  · have e : v = .slice none 0 0 := by simpa using hcs
    subst e
    exact ⟨none, 0, 0, rfl, fuel, h⟩
  · have e : v = .slice (some a) len cap := by simpa using hcs
    subst e
    exact ⟨some a, len, cap, rfl, fuel, h⟩
theorem open_cacts {W : World} {A : Option Addr} {len cap : Nat} {d : DataW H} {p : List MemPlace} (h : DataW.Trod enc Tryz.prog W 0 (fun _ => true) true 38 (.slice A len cap) d p) :
    ∃ l : List CAct, l.length = len ∧ LS cactE W W.heap.size A l ∧ ∀ x ∈ l, CActAt W W.heap.size x := by
  obtain ⟨fuel, hf⟩ := h
  rcases open_slice_fields Tryz.underlying38 Tryz.underlying45 (by kernel_rfl) (by kernel_rfl) hf with ⟨hcs, _⟩ | ⟨a, len', cap', m, D, Pl, hcs, _, hl, hm, hmm, hx, hi⟩
  · simp [Value.cells] at hcs
    obtain ⟨rfl, rfl, rfl⟩ := hcs
    exact ⟨[], rfl, LS.nil_, fun x hx => by cases hx⟩
  · simp [Value.cells] at hcs
    obtain ⟨rfl, rfl, rfl⟩ := hcs
    simp only [if_true] at hmm
    subst hmm
    have key : ∀ i, ∃ r : CAct, i < len → (W.cell? (a.add (i * 5)) = some (.int .i64 r.k) ∧ W.cell? (a.add (i * 5 + 1)) = some (.slice r.A1 r.n1 r.c1) ∧ W.cell? (a.add (i * 5 + 2)) = some (.slice r.A2 r.n2 r.c2) ∧ W.cell? (a.add (i * 5 + 3)) = some (.int .i64 r.head) ∧ W.cell? (a.add (i * 5 + 4)) = some (.string r.body)) ∧ CActAt W W.heap.size r := by
      intro i
      by_cases hil : i < len
      · obtain ⟨ys, n, _, _, hys, hfld⟩ := hi i (by omega)
        obtain ⟨v0, y0, hc0, _, t0⟩ := hfld 0 _ rfl
        obtain ⟨v1, y1, hc1, _, t1⟩ := hfld 1 _ rfl
        obtain ⟨v2, y2, hc2, _, t2⟩ := hfld 2 _ rfl
        obtain ⟨v3, y3, hc3, _, t3⟩ := hfld 3 _ rfl
        obtain ⟨v4, y4, hc4, _, t4⟩ := hfld 4 _ rfl
        obtain ⟨x0, e0, _, w0⟩ := DataW.trod_int Tryz.underlying3 t0
        obtain ⟨A1, n1, c1, rfl, q1⟩ := trod_of_slice Tryz.underlying22 t1
        obtain ⟨A2, n2, c2, rfl, q2⟩ := trod_of_slice Tryz.underlying28 t2
        obtain ⟨x3, e3, _, w3⟩ := DataW.trod_int Tryz.underlying3 t3
        obtain ⟨x4, e4, _⟩ := DataW.trod_string Tryz.underlying9 t4
        simp at e0 e3 e4
        subst e0 e3 e4
        obtain ⟨l1, r1, r2, _⟩ := open_runs q1
        obtain ⟨l2, s1, s2, s3⟩ := open_ints_in q2
        exact ⟨⟨x0, A1, n1, c1, A2, n2, c2, x3, x4⟩, fun _ => ⟨⟨hc0, hc1, hc2, hc3, hc4⟩, ⟨l1, r1, r2⟩, ⟨l2, s1, s2.ls, fun y hy => wf_le (s3 y hy)⟩, w0, w3⟩⟩
      · exact ⟨⟨0, none, 0, 0, none, 0, 0, 0, ⟨#[]⟩⟩, fun h => absurd h hil⟩
    obtain ⟨f, hfs⟩ : ∃ f : Nat → CAct, ∀ i, i < len → (W.cell? (a.add (i * 5)) = some (.int .i64 (f i).k) ∧ W.cell? (a.add (i * 5 + 1)) = some (.slice (f i).A1 (f i).n1 (f i).c1) ∧ W.cell? (a.add (i * 5 + 2)) = some (.slice (f i).A2 (f i).n2 (f i).c2) ∧ W.cell? (a.add (i * 5 + 3)) = some (.int .i64 (f i).head) ∧ W.cell? (a.add (i * 5 + 4)) = some (.string (f i).body)) ∧ CActAt W W.heap.size (f i) := ⟨fun i => Classical.choose (key i), fun i => Classical.choose_spec (key i)⟩
    clear key
    refine ⟨(List.range len).map f, by simp, ⟨cactE.cells_length _, fun hpos => ⟨a, rfl, ?_, ?_⟩⟩, ?_⟩
    · have := (hfs 0 (by simpa using hpos)).1.1
      have hb := World.block_lt_of_cell? W _ this
      rwa [block_of_add] at hb
    · intro j u hu
      have hjl : j < len * 5 := by
        have := (List.getElem?_eq_some_iff.1 hu).1
        rw [cactE.cells_length] at this; simpa [cactE] using this
      have h0 := cactE.cells_at ((List.range len).map f) (j / 5) (by simp; omega) (j % 5) (by show j % 5 < 5; omega)
      have e : j / 5 * cactE.size + j % 5 = j := by show j / 5 * 5 + j % 5 = j; omega
      rw [e, hu] at h0
      simp only [List.getElem_map, List.getElem_range] at h0
      have hs := (hfs (j / 5) (by omega)).1
      have hm : j % 5 = 0 ∨ j % 5 = 1 ∨ j % 5 = 2 ∨ j % 5 = 3 ∨ j % 5 = 4 := by omega
      rcases hm with hm | hm | hm | hm | hm
      · rw [hm] at h0; injection h0 with h0; subst h0; rw [← hs.1, show j / 5 * 5 = j by omega]
      · rw [hm] at h0; injection h0 with h0; subst h0; rw [← hs.2.1, show j / 5 * 5 + 1 = j by omega]
      · rw [hm] at h0; injection h0 with h0; subst h0; rw [← hs.2.2.1, show j / 5 * 5 + 2 = j by omega]
      · rw [hm] at h0; injection h0 with h0; subst h0; rw [← hs.2.2.2.1, show j / 5 * 5 + 3 = j by omega]
      · rw [hm] at h0; injection h0 with h0; subst h0; rw [← hs.2.2.2.2, show j / 5 * 5 + 4 = j by omega]
    · intro x hx
      obtain ⟨i, hi', rfl⟩ := List.mem_map.1 hx
      exact (hfs i (List.mem_range.1 hi')).2
end
end Go.Proofs.YtlgbcogdogpihaaGreatDoor
