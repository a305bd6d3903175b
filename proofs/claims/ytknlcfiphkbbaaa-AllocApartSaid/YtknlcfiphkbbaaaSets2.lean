/- The walks of runs.Meet, Minus, Add, Remove, Has, Count. -/
import Derived.Test.YtknlcfiphkbbaaaConcat
namespace Go.Proofs.Ytknlcfiphkbbaaa
open Go.RowKit
theorem union_len (a b : List Run) : (Rp.union a b).length ≤ a.length + b.length := by
  have := norm_len (a ++ b); unfold Rp.union; simpa using this
theorem rest_len' (a : List Run) : (Rp.rest a).length ≤ a.length + 1 := by
  have := Rp.rest_len a; have := norm_len a; omega
theorem meet_len (a b : List Run) : (Rp.meet a b).length ≤ a.length + b.length + 3 := by
  have h1 := rest_len' (Rp.union (Rp.rest a) (Rp.rest b)); have h2 := union_len (Rp.rest a) (Rp.rest b); have h3 := rest_len' a; have h4 := rest_len' b
  unfold Rp.meet; omega
theorem minus_len (a b : List Run) : (Rp.minus a b).length ≤ a.length + b.length + 4 := by
  have h1 := meet_len a (Rp.rest b); have h2 := rest_len' b
  unfold Rp.minus; omega
theorem hid_calls {P : Program} {f : FuncId} {args : Array Value} {w : World} {R : Ending → World → Prop} (h : Calls P f args w R) : Hid (Calls P f args w R) := h
set_option maxRecDepth 100000 in
set_option maxHeartbeats 400000 in
theorem meet_any (A1 A2 : Option Addr) (k1 k2 : Nat) (l1 l2 : List Run) (w : World) (h1 : RS w w.heap.size A1 l1) (h2 : RS w w.heap.size A2 l2) (hl1 : l1.length ≤ 100000) (hl2 : l2.length ≤ 100000) :
    Calls Try.prog 38 #[.slice A1 l1.length k1, .slice A2 l2.length k2] w (RunsEnd (Rp.meet l1 l2) w) := by
  have q1 := rest_len' l1
  have q2 := rest_len' l2
  have q3 := union_len (Rp.rest l1) (Rp.rest l2)
  have c1 := fun W h => hid_calls (rest_any A1 k1 l1 W h (by omega))
  have c2 := fun W h => hid_calls (rest_any A2 k2 l2 W h (by omega))
  have c3 := fun A B a b W h h' => hid_calls (union_any A B a b (Rp.rest l1) (Rp.rest l2) W h h' (by omega) (by omega))
  have c4 := fun A a W h => hid_calls (rest_any A a (Rp.union (Rp.rest l1) (Rp.rest l2)) W h (by omega))
  have e : Rp.rest (Rp.union (Rp.rest l1) (Rp.rest l2)) = Rp.meet l1 l2 := rfl
  rw [e] at c4
  clear q1 q2 q3 e
  generalize Rp.meet l1 l2 = o at *
  generalize Rp.union (Rp.rest l1) (Rp.rest l2) = u at *
  generalize Rp.rest l1 = s1 at *
  generalize Rp.rest l2 = s2 at *
  go_enter Try.func38, Try.ntmps38
  go_wp2_with fail
  refine (c1 _ h1).out.mono ?_
  intro e w1 he
  obtain ⟨B1, x1, rfl, _, r1, b1⟩ := he.open_
  clear he
  have h2' : RS w1 w1.heap.size A2 l2 := (h2.below b1).more b1.size
  go_wp2_with fail
  refine (c2 _ h2').out.mono ?_
  intro e w2 he
  obtain ⟨B2, x2, rfl, _, r2, b2⟩ := he.open_
  clear he
  have r1' : RS w2 w2.heap.size B1 s1 := (r1.below b2).more b2.size
  go_wp2_with fail
  refine (c3 _ _ _ _ _ r1' r2).out.mono ?_
  intro e w3 he
  obtain ⟨B3, x3, rfl, _, r3, b3⟩ := he.open_
  clear he
  go_wp2_with fail
  refine (c4 _ _ _ r3).out.mono ?_
  intro e w4 he
  obtain ⟨B4, x4, rfl, o4, r4, b4⟩ := he.open_
  clear he
  go_wp2
  go_ret
  have z1 := b1.size
  have z2 := b2.size
  have z3 := b3.size
  exact ⟨_, rfl, o4.lower (by omega), ((b1.trans (b2.mono z1)).trans (b3.mono (by omega))).trans (b4.mono (by omega))⟩
set_option maxRecDepth 100000 in
set_option maxHeartbeats 400000 in
theorem minus_any (A1 A2 : Option Addr) (k1 k2 : Nat) (l1 l2 : List Run) (w : World) (h1 : RS w w.heap.size A1 l1) (h2 : RS w w.heap.size A2 l2) (hl1 : l1.length ≤ 90000) (hl2 : l2.length ≤ 90000) :
    Calls Try.prog 25 #[.slice A1 l1.length k1, .slice A2 l2.length k2] w (RunsEnd (Rp.minus l1 l2) w) := by
  have q2 := rest_len' l2
  have c2 := fun W h => hid_calls (rest_any A2 k2 l2 W h (by omega))
  have c3 := fun A B a b W h h' => hid_calls (meet_any A B a b l1 (Rp.rest l2) W h h' (by omega) (by omega))
  have e : Rp.meet l1 (Rp.rest l2) = Rp.minus l1 l2 := rfl
  rw [e] at c3
  clear q2 e
  generalize Rp.minus l1 l2 = o at *
  generalize Rp.rest l2 = s2 at *
  go_enter Try.func25, Try.ntmps25
  go_wp2_with fail
  refine (c2 _ h2).out.mono ?_
  intro e w2 he
  obtain ⟨B2, x2, rfl, _, r2, b2⟩ := he.open_
  clear he
  have r1' : RS w2 w2.heap.size A1 l1 := (h1.below b2).more b2.size
  go_wp2_with fail
  refine (c3 _ _ _ _ _ r1' r2).out.mono ?_
  intro e w3 he
  obtain ⟨B3, x3, rfl, o3, r3, b3⟩ := he.open_
  clear he
  go_wp2
  go_ret
  have z2 := b2.size
  exact ⟨_, rfl, o3.lower z2, b2.trans (b3.mono z2)⟩
theorem RS.single (W : World) (a b : Int) (te : TypeId) : RS (W.alloc (.cells #[.int .i64 a, .int .i64 b] te)) (W.alloc (.cells #[.int .i64 a, .int .i64 b] te)).heap.size (some ⟨W.heap.size, 0, none⟩) [(a, b)] := by
  refine ⟨by simp [cellsR, encR], fun _ => ⟨_, rfl, by simp, fun j u hu => ?_⟩⟩
  rw [Addr.add_lit, Nat.zero_add, (Blk.new W te _).cell j]
  simpa [cellsR, encR] using hu
set_option maxRecDepth 100000 in
set_option maxHeartbeats 400000 in
theorem add_any (A : Option Addr) (k : Nat) (l : List Run) (n : Int) (w : World) (h : RS w w.heap.size A l) (hl : l.length ≤ 90000) :
    Calls Try.prog 44 #[.slice A l.length k, .int .i64 n] w (RunsEnd (Rp.union l [(n, n)]) w) := by
  have c3 := fun W h => hid_calls (union_any A (some ⟨W.heap.size, 0, none⟩) k 1 l [(n, n)] _ h (RS.single W n n 55) (by omega) (by simp))
  change ∀ W : World, RS (W.alloc (.cells #[.int .i64 n, .int .i64 n] 55)) _ A l → Hid (Calls Try.prog 28 #[.slice A l.length k, .slice (some ⟨W.heap.size, 0, none⟩) 1 1] _ _) at c3
  generalize Rp.union l [(n, n)] = o at *
  have r1 : RS (w.alloc (.cells #[.int .i64 n, .int .i64 n] 55)) (w.alloc (.cells #[.int .i64 n, .int .i64 n] 55)).heap.size A l := (h.below ((Below.refl _ w).alloc (Nat.le_refl _) _)).more (by simp)
  go_enter Try.func44, Try.ntmps44
  go_wp2_with fail
  refine (c3 w r1).out.mono ?_
  intro e w3 he
  obtain ⟨B3, x3, rfl, o3, r3, b3⟩ := he.open_
  clear he
  go_wp2
  go_ret
  exact ⟨_, rfl, o3.lower (by simp), ((Below.refl _ w).alloc (Nat.le_refl _) _).trans (b3.mono (by simp))⟩
set_option maxRecDepth 100000 in
set_option maxHeartbeats 400000 in
theorem remove_any (A : Option Addr) (k : Nat) (l : List Run) (n : Int) (w : World) (h : RS w w.heap.size A l) (hl : l.length ≤ 90000) :
    Calls Try.prog 43 #[.slice A l.length k, .int .i64 n] w (RunsEnd (Rp.minus l [(n, n)]) w) := by
  have c3 := fun W h => hid_calls (minus_any A (some ⟨W.heap.size, 0, none⟩) k 1 l [(n, n)] _ h (RS.single W n n 55) (by omega) (by simp))
  change ∀ W : World, RS (W.alloc (.cells #[.int .i64 n, .int .i64 n] 55)) _ A l → Hid (Calls Try.prog 25 #[.slice A l.length k, .slice (some ⟨W.heap.size, 0, none⟩) 1 1] _ _) at c3
  generalize Rp.minus l [(n, n)] = o at *
  have r1 : RS (w.alloc (.cells #[.int .i64 n, .int .i64 n] 55)) (w.alloc (.cells #[.int .i64 n, .int .i64 n] 55)).heap.size A l := (h.below ((Below.refl _ w).alloc (Nat.le_refl _) _)).more (by simp)
  go_enter Try.func43, Try.ntmps43
  go_wp2_with fail
  refine (c3 w r1).out.mono ?_
  intro e w3 he
  obtain ⟨B3, x3, rfl, o3, r3, b3⟩ := he.open_
  clear he
  go_wp2
  go_ret
  exact ⟨_, rfl, o3.lower (by simp), ((Below.refl _ w).alloc (Nat.le_refl _) _).trans (b3.mono (by simp))⟩
end Go.Proofs.Ytknlcfiphkbbaaa
