/- Runs in memory: a slice of runs that reads as a list. -/
import Derived.Test.YtknlcfiphkbbaaaMem
import Derived.Test.YtknlcfiphkbbaaaRunsP
namespace Go.Proofs.Ytknlcfiphkbbaaa
open Go.RowKit
abbrev Run := Int × Int
def encR (r : Run) : List Value := [.int .i64 r.1, .int .i64 r.2]
def cellsR (l : List Run) : List Value := l.flatMap encR
theorem cellsR_length (l : List Run) : (cellsR l).length = l.length * 2 := by
  induction l with
  | nil => rfl
  | cons r l ih => unfold cellsR at *; rw [List.flatMap_cons, List.length_append, ih, List.length_cons]; simp [encR]; omega
theorem cellsR_append (a b : List Run) : cellsR (a ++ b) = cellsR a ++ cellsR b := by unfold cellsR; rw [List.flatMap_append]
theorem cellsR_one (r : Run) : cellsR [r] = encR r := by simp [cellsR]
theorem cellsR_at (l : List Run) (k : Nat) (hk : k < l.length) : (cellsR l)[k * 2]? = some (.int .i64 l[k].1) ∧ (cellsR l)[k * 2 + 1]? = some (.int .i64 l[k].2) := by
  induction l generalizing k with
  | nil => simp at hk
  | cons r l ih =>
    cases k with
    | zero => simp [cellsR, encR]
    | succ k =>
      have := ih k (by simpa using hk)
      have e1 : (cellsR (r :: l)) = [.int .i64 r.1, .int .i64 r.2] ++ cellsR l := rfl
      rw [e1, show (k + 1) * 2 = k * 2 + 2 by omega]
      simpa using this
theorem cellsR_one_cell (l : List Run) : ∀ u ∈ cellsR l, u.oneCell' = true := by
  intro u hu
  unfold cellsR at hu
  obtain ⟨r, _, hr⟩ := List.mem_flatMap.1 hu
  simp [encR] at hr
  rcases hr with rfl | rfl <;> rfl
theorem eiRun : EI Try.prog 55 (.agg #[.int .i64 0, .int .i64 0]) 2 16 := EI.mk (by kernel_rfl)

/-- a slice of runs, nil let in -/
def RS (w : World) (B : Nat) (A : Option Addr) (l : List Run) : Prop := Reads w B 2 A l.length (cellsR l)
section
variable {w w' : World} {B : Nat} {A : Option Addr} {l : List Run}
theorem RS.at_ (h : RS w B A l) {k : Nat} (hk : k < l.length) : ∃ b off, A = some ⟨b, off, none⟩ ∧ b < B ∧ w.cell? ⟨b, off + k * 2, none⟩ = some (.int .i64 l[k].1) ∧ w.cell? ⟨b, off + k * 2 + 1, none⟩ = some (.int .i64 l[k].2) := by
  obtain ⟨ad, rfl, hb, hc⟩ := h.2 (by omega)
  obtain ⟨b, off, spot⟩ := ad
  obtain ⟨h0, h1⟩ := cellsR_at l k hk
  have g0 := hc _ _ h0
  have g1 := hc _ _ h1
  have hs : spot = none := by
    have g := hc 0 _ (cellsR_at l 0 (by omega)).1
    simpa [Addr.add] using World.cell?_spot g
  subst hs
  rw [Addr.add_lit] at g0 g1
  exact ⟨b, off, rfl, hb, g0, by rw [Nat.add_assoc]; exact g1⟩
theorem RS.below (h : RS w B A l) (hb : Below B w w') : RS w' B A l := Reads.below h hb
theorem RS.more {B' : Nat} (h : RS w B A l) (hB : B ≤ B') : RS w B' A l := Reads.more h hB
theorem RS.nil_ : RS w B A [] := ⟨rfl, fun h => absurd h (by simp)⟩
theorem RS.of_own {base e c : Nat} {n : Nat} (h : w.ownsRow base e 2 (.slice A n c) n (cellsR l)) : n = l.length ∧ RS w w.heap.size A l := by
  have hn : n = l.length := by have h1 := h.1; rw [cellsR_length] at h1; omega
  subst hn
  exact ⟨rfl, Reads.of_own h⟩
end
/-- an owned row of runs -/
def Own (w : World) (base : Nat) (v : Value) (l : List Run) : Prop := w.ownsRow base 55 2 v l.length (cellsR l)
theorem Own.nil_ (w : World) (base : Nat) : Own w base (.slice none 0 0) [] := World.ownsRow_nil _ _ _ _
theorem Own.form {w : World} {base : Nat} {v : Value} {l : List Run} (h : Own w base v l) : ∃ A c, v = .slice A l.length c := by
  rcases h.2 with ⟨rfl, h0⟩ | ⟨g, cap, cur, rfl, _⟩
  · exact ⟨none, 0, by rw [h0]⟩
  · exact ⟨_, _, rfl⟩
theorem Own.rs {w : World} {base : Nat} {A : Option Addr} {n c : Nat} {l : List Run} (h : Own w base (.slice A n c) l) : RS w w.heap.size A l := by
  obtain ⟨A', c', e⟩ := h.form
  injection e with e1 e2 e3
  subst e1 e2
  exact Reads.of_own h
theorem ownsRow_lower {w : World} {base base' e size n : Nat} {v : Value} {xs : List Value} (h : w.ownsRow base e size v n xs) (hb : base' ≤ base) : w.ownsRow base' e size v n xs := by
  refine ⟨h.1, ?_⟩
  rcases h.2 with h0 | ⟨g, cap, cur, h1, h2, h3⟩
  · exact .inl h0
  · exact .inr ⟨g, cap, cur, h1, Nat.le_trans hb h2, h3⟩
theorem ownsRow_below {w w' : World} {base e size n : Nat} {v : Value} {xs : List Value} (h : w.ownsRow base e size v n xs) (hb : Below w.heap.size w w') : w'.ownsRow base e size v n xs := by
  refine ⟨h.1, ?_⟩
  rcases h.2 with h0 | ⟨g, cap, cur, h1, h2, h3, h4⟩
  · exact .inl h0
  · refine .inr ⟨g, cap, cur, h1, h2, ?_, h4⟩
    rw [hb.block g ?_]; exact h3
    rcases Nat.lt_or_ge g w.heap.size with hlt | hge
    · exact hlt
    · rw [Array.getElem?_eq_none hge] at h3; cases h3
theorem Own.below {w w' : World} {base : Nat} {v : Value} {l : List Run} (h : Own w base v l) (hb : Below w.heap.size w w') : Own w' base v l := ownsRow_below h hb
theorem Own.lower {w : World} {base base' : Nat} {v : Value} {l : List Run} (h : Own w base v l) (hb : base' ≤ base) : Own w base' v l := ownsRow_lower h hb
end Go.Proofs.Ytknlcfiphkbbaaa
