/- Lists of things of some cells in memory, over any encoding; and rows of the call's own. -/
import Derived.Test.YtknlcfiphkbbaaaDoorMem
namespace Go.Proofs.YtknlcfiphkbbaaaDoor
open Go.RowKit
/-- how a thing lies in cells -/
structure Enc (α : Type) where
  enc : α → List Value
  size : Nat
  len : ∀ x, (enc x).length = size
  pos : 0 < size
  one : ∀ x, ∀ u ∈ enc x, u.oneCell' = true
section
variable {α : Type} {E : Enc α} {w w' : World} {B : Nat} {A : Option Addr} {l : List α}
def Enc.cells (E : Enc α) (l : List α) : List Value := l.flatMap E.enc
theorem Enc.cells_length (E : Enc α) (l : List α) : (E.cells l).length = l.length * E.size := by
  induction l with
  | nil => simp [Enc.cells]
  | cons r l ih => unfold Enc.cells at *; rw [List.flatMap_cons, List.length_append, ih, List.length_cons, E.len, Nat.succ_mul]; omega
theorem Enc.cells_append (E : Enc α) (a b : List α) : E.cells (a ++ b) = E.cells a ++ E.cells b := by unfold Enc.cells; rw [List.flatMap_append]
theorem Enc.cells_one (E : Enc α) (x : α) : E.cells [x] = E.enc x := by simp [Enc.cells]
theorem Enc.cells_snoc (E : Enc α) (l : List α) (x : α) : E.cells (l ++ [x]) = E.cells l ++ E.enc x := by rw [E.cells_append, E.cells_one]
theorem Enc.cells_cons (E : Enc α) (x : α) (l : List α) : E.cells (x :: l) = E.enc x ++ E.cells l := by unfold Enc.cells; rw [List.flatMap_cons]
theorem Enc.cells_at (E : Enc α) (l : List α) (k : Nat) (hk : k < l.length) (j : Nat) (hj : j < E.size) : (E.cells l)[k * E.size + j]? = (E.enc l[k])[j]? := by
  induction l generalizing k with
  | nil => simp at hk
  | cons r l ih =>
    rw [E.cells_cons]
    cases k with
    | zero => rw [Nat.zero_mul, Nat.zero_add, List.getElem?_append_left (by rw [E.len]; exact hj)]; rfl
    | succ k =>
      have := ih k (by simpa using hk)
      rw [List.getElem?_append_right (by rw [E.len, Nat.succ_mul]; omega), E.len, Nat.succ_mul, show k * E.size + E.size + j - E.size = k * E.size + j by omega, this]
      rfl
theorem Enc.cells_all (E : Enc α) (l : List α) : ∀ u ∈ E.cells l, u.oneCell' = true := by
  intro u hu
  unfold Enc.cells at hu
  obtain ⟨r, _, hr⟩ := List.mem_flatMap.1 hu
  exact E.one r u hr
theorem Enc.cells_drop (E : Enc α) (l : List α) (k : Nat) : (E.cells l).drop (k * E.size) = E.cells (l.drop k) := by
  induction l generalizing k with
  | nil => simp [Enc.cells]
  | cons r l ih =>
    cases k with
    | zero => simp
    | succ k =>
      rw [E.cells_cons, Nat.succ_mul, List.drop_append, E.len, List.drop_of_length_le (by rw [E.len]; omega), List.nil_append, show k * E.size + E.size - E.size = k * E.size by omega, ih]
      rfl
theorem Enc.cells_take (E : Enc α) (l : List α) (k : Nat) : (E.cells l).take (k * E.size) = E.cells (l.take k) := by
  induction l generalizing k with
  | nil => simp [Enc.cells]
  | cons r l ih =>
    cases k with
    | zero => simp [Enc.cells]
    | succ k =>
      rw [E.cells_cons, Nat.succ_mul, List.take_append, E.len, List.take_of_length_le (by rw [E.len]; omega), show k * E.size + E.size - E.size = k * E.size by omega, ih, ← E.cells_cons]
      rfl
/-- a slice that reads as a list -/
def LS (E : Enc α) (w : World) (B : Nat) (A : Option Addr) (l : List α) : Prop := Reads w B E.size A l.length (E.cells l)
theorem LS.at_ (h : LS E w B A l) {k : Nat} (hk : k < l.length) : ∃ b off, A = some ⟨b, off, none⟩ ∧ b < B ∧ ∀ j, j < E.size → w.cell? ⟨b, off + k * E.size + j, none⟩ = (E.enc l[k])[j]? := by
  obtain ⟨ad, rfl, hb, hc⟩ := h.2 (by omega)
  obtain ⟨b, off, spot⟩ := ad
  have hs : spot = none := by
    have h0 := E.cells_at l 0 (by omega) 0 E.pos
    rw [List.getElem?_eq_getElem (l := E.enc (l[0]'(by omega))) (by rw [E.len]; exact E.pos)] at h0
    have := hc _ _ h0
    simpa [Addr.add] using World.cell?_spot this
  subst hs
  refine ⟨b, off, rfl, hb, fun j hj => ?_⟩
  have h0 := E.cells_at l k hk j hj
  rw [List.getElem?_eq_getElem (l := E.enc l[k]) (by rw [E.len]; exact hj)] at h0
  have := hc _ _ h0
  rw [Addr.add_lit] at this
  rw [Nat.add_assoc, this, ← h0, E.cells_at l k hk j hj]
theorem LS.below (h : LS E w B A l) (hb : Below B w w') : LS E w' B A l := Reads.below h hb
theorem LS.more {B' : Nat} (h : LS E w B A l) (hB : B ≤ B') : LS E w B' A l := Reads.more h hB
theorem LS.up (h : LS E w w.heap.size A l) (hb : Below w.heap.size w w') : LS E w' w'.heap.size A l := (h.below hb).more hb.size
theorem LS.nil_ : LS E w B A [] := ⟨by simp [Enc.cells], fun h => absurd h (by simp)⟩
theorem LS.cut (h : LS E w B A l) {k cap : Nat} (hk : k ≤ l.length) (hc : l.length ≤ cap) : LS E w B (if cap = k then A else A.map (·.add (k * E.size))) (l.drop k) := by
  have := Reads.cut (size := E.size) h hk hc
  unfold LS
  rw [List.length_drop, ← E.cells_drop]
  exact this
theorem LS.take_ (h : LS E w B A l) (k : Nat) : LS E w B A (l.take k) := by
  unfold LS
  refine ⟨E.cells_length _, fun hn => ?_⟩
  obtain ⟨ad, e, hb, hc⟩ := h.2 (by rw [List.length_take] at hn; omega)
  refine ⟨ad, e, hb, fun j u hu => hc j u ?_⟩
  rw [← E.cells_take] at hu
  rw [List.getElem?_take] at hu
  split at hu
  · exact hu
  · cases hu
/-- a row of the call's own -/
def LO (E : Enc α) (ty : TypeId) (w : World) (base : Nat) (v : Value) (l : List α) : Prop := w.ownsRow base ty E.size v l.length (E.cells l)
section
variable {ty : TypeId} {base : Nat} {v : Value}
theorem LO.nil_ (w : World) (base : Nat) : LO E ty w base (.slice none 0 0) [] := World.ownsRow_nil _ _ _ _
theorem LO.raw (h : LO E ty w base v l) {n s : Nat} (hn : l.length = n) (hs : E.size = s) : w.ownsRow base ty s v n (E.cells l) := by subst hn hs; exact h
theorem LO.form (h : LO E ty w base v l) : ∃ A c, v = .slice A l.length c := by
  rcases h.2 with ⟨rfl, h0⟩ | ⟨g, cap, cur, rfl, _⟩
  · exact ⟨none, 0, by rw [h0]⟩
  · exact ⟨_, _, rfl⟩
theorem LO.ls {n c : Nat} (h : LO E ty w base (.slice A n c) l) : LS E w w.heap.size A l := by
  obtain ⟨A', c', e⟩ := h.form
  injection e with e1 e2 e3
  subst e1 e2
  exact Reads.of_own h
theorem own_lower {e size n : Nat} {xs : List Value} {base' : Nat} (h : w.ownsRow base e size v n xs) (hb : base' ≤ base) : w.ownsRow base' e size v n xs := by
  refine ⟨h.1, ?_⟩
  rcases h.2 with h0 | ⟨g, cap, cur, h1, h2, h3⟩
  · exact .inl h0
  · exact .inr ⟨g, cap, cur, h1, Nat.le_trans hb h2, h3⟩
theorem own_below {e size n : Nat} {xs : List Value} (h : w.ownsRow base e size v n xs) (hb : Below w.heap.size w w') : w'.ownsRow base e size v n xs := by
  refine ⟨h.1, ?_⟩
  rcases h.2 with h0 | ⟨g, cap, cur, h1, h2, h3, h4⟩
  · exact .inl h0
  · refine .inr ⟨g, cap, cur, h1, h2, ?_, h4⟩
    rw [hb.block g ?_]; exact h3
    rcases Nat.lt_or_ge g w.heap.size with hlt | hge
    · exact hlt
    · rw [Array.getElem?_eq_none hge] at h3; cases h3
theorem own_form {e size n : Nat} {xs : List Value} (h : w.ownsRow base e size v n xs) : ∃ A c, v = .slice A n c := by
  rcases h.2 with ⟨rfl, h0⟩ | ⟨g, cap, cur, rfl, _⟩
  · exact ⟨none, 0, by rw [h0]⟩
  · exact ⟨_, _, rfl⟩
theorem LO.below (h : LO E ty w base v l) (hb : Below w.heap.size w w') : LO E ty w' base v l := own_below h hb
theorem LO.lower {base' : Nat} (h : LO E ty w base v l) (hb : base' ≤ base) : LO E ty w base' v l := own_lower h hb
theorem LO.alloc (h : LO E ty w base v l) (o : Obj) : LO E ty (w.alloc o) base v l := World.ownsRow.alloc h o
theorem LO.drewN (h : LO E ty w base v l) (n : Nat) : LO E ty (w.drewN n) base v l := h
theorem LO.snoc {x : α} {cs : List Value} {n s : Nat} (hn : l.length = n) (hs : E.size = s) (hc : cs = E.enc x) (h : w.ownsRow base ty s v (n + 1) (E.cells l ++ cs)) : LO E ty w base v (l ++ [x]) := by
  subst hn hs hc
  unfold LO
  rw [List.length_append, E.cells_snoc]
  exact h
theorem LO.keep {row : Option Nat} (h : LO E ty w base v l) (hg : w.grownBy w' row) (hr : ∀ r, row = some r → ∃ o, w.heap[r]? = some o ∧ ∀ cs, o ≠ .cells cs ty (0, 0)) : LO E ty w' base v l := by
  rcases h with ⟨h1, h2 | ⟨g, cap, cur, hv, hb, hh, r⟩⟩
  · exact ⟨h1, .inl h2⟩
  · refine ⟨h1, .inr ⟨g, cap, cur, hv, hb, (hg.block g (Array.getElem?_eq_some_iff.1 hh).1 ?_).trans hh, r⟩⟩
    intro e
    obtain ⟨o, ho, hne⟩ := hr g e.symm
    rw [hh] at ho; cases ho
    exact hne cur rfl
/-- how a function that gives a list of its own ends -/
def LEnd (E : Enc α) (ty : TypeId) (o : List α) (w : World) (e : Ending) (w' : World) : Prop := ∃ v, e = .returned v ∧ LO E ty w' w.heap.size v o ∧ Below w.heap.size w w'
theorem LEnd.open_ {e : Ending} (h : LEnd E ty l w e w') : ∃ A c, e = .returned (.slice A l.length c) ∧ LO E ty w' w.heap.size (.slice A l.length c) l ∧ LS E w' w'.heap.size A l ∧ Below w.heap.size w w' := by
  obtain ⟨v, rfl, ho, hb⟩ := h
  obtain ⟨A, c, rfl⟩ := ho.form
  exact ⟨A, c, rfl, ho, ho.ls, hb⟩
/-- how a function that gives some list back, its own or one that came in, ends -/
def LGive (E : Enc α) (o : List α) (w : World) (e : Ending) (w' : World) : Prop := ∃ A c, e = .returned (.slice A o.length c) ∧ o.length ≤ c ∧ (A = none → c = 0) ∧ LS E w' w'.heap.size A o ∧ Below w.heap.size w w'
end
end
theorem own_obj {w : World} {base e size c : Nat} {v : Value} {xs : List Value} (h : w.ownsRow base e size v c xs) {r : Nat} (hr : v.ownBlock = some r) : ∃ cs, w.heap[r]? = some (.cells cs e (0, 0)) := by
  rcases h.2 with ⟨rfl, _⟩ | ⟨g, cap, cur, rfl, _, h3, _⟩
  · simp [Value.ownBlock] at hr
  · simp [Value.ownBlock] at hr; subst hr; exact ⟨_, h3⟩
/-- a row lies as it lay where a row of another type has grown -/
theorem keep_row {w w' : World} {base e size c : Nat} {v : Value} {xs : List Value} (h : w.ownsRow base e size v c xs) {base2 e2 size2 c2 : Nat} {v2 : Value} {xs2 : List Value} (h2 : w.ownsRow base2 e2 size2 v2 c2 xs2) (hne : e ≠ e2) (hg : w.grownBy w' v2.ownBlock) : w'.ownsRow base e size v c xs := by
  refine ⟨h.1, ?_⟩
  rcases h.2 with h0 | ⟨g, cap, cur, g1, g2, g3, g4⟩
  · exact .inl h0
  · refine .inr ⟨g, cap, cur, g1, g2, ?_, g4⟩
    rw [hg.block g (Array.getElem?_eq_some_iff.1 g3).1 ?_]; exact g3
    intro hr
    obtain ⟨cs, hcs⟩ := own_obj h2 hr.symm
    rw [g3] at hcs
    injection hcs with hcs; injection hcs with _ hcs; exact hne hcs
theorem LO.set_ {w : World} {base g : Nat} {α : Type} {E : Enc α} {ty ty' : TypeId} {cs : Array Value} {v : Value} {l : List α} {i : Nat} {u : Value} (h : LO E ty w base v l) (hB : Blk w g ty' cs) (hne : ty' ≠ ty) : LO E ty (w.setCell ⟨g, i, none⟩ u) base v l :=
  h.keep (only_setCell (World.grownBy.refl w (some g)) (.inl rfl) u) fun r e => by
    cases e; exact ⟨_, hB, fun cs e => by injection e with _ e; exact hne e⟩
end Go.Proofs.YtknlcfiphkbbaaaDoor
