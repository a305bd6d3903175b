/- The walks of alloc.New, Pages, Free, Fresh. -/
import Derived.Test.YtlgbcogdogpihaaGreatDoorQTxn
namespace Go.Proofs.YtlgbcogdogpihaaGreatDoor
open Go.RowKit Go.Shelf
def pagesN (pages : Int) (n : Nat) : Int := min (max pages 2) (max (n : Int) 2)
set_option maxRecDepth 100000 in
set_option maxHeartbeats 400000 in
theorem tnew_any (f n : Nat) (A : Option Addr) (c : Nat) (l : List Run) (pages : Int) (hn : n ≤ 16384) (w : World) (hf : FileOf w f n) (hr : RS w w.heap.size A l) (hl : l.length ≤ 50000) :
    Calls Tryz.prog 26 #[.pointer (some ⟨f, 0, none⟩), .slice A l.length c, .int .i64 pages] w fun e w' => ∃ t m, e = .returned (.pointer (some ⟨t, 0, none⟩)) ∧ (w.heap.size ≤ t ∧ w.heap.size ≤ m) ∧ Txn w' t m f n (Rp.meet l [(2, pagesN pages n - 1)]) (pagesN pages n) 0 (.map []) ∧ Below w.heap.size w w' := by
  obtain ⟨p, hp⟩ : ∃ p, p = pagesN pages n := ⟨_, rfl⟩
  rw [← hp]
  have hp1 : 2 ≤ p ∧ p ≤ 16384 ∧ p = min (max pages 2) (max (n : Int) 2) := by unfold pagesN at hp; omega
  have hroom := room_any f n w hf
  have hmm := @run_makeMap Tryz.prog
  have hm := fun W h => hid_calls (meet_any A (some ⟨W.heap.size, 0, none⟩) c 1 l [(2, p - 1)] _ h (RS.single W 2 (p - 1) 62) (by omega) (by simp))
  obtain ⟨o, ho⟩ : ∃ o, o = Rp.meet l [(2, p - 1)] := ⟨_, rfl⟩
  rw [← ho] at hm ⊢
  clear ho hp
  go_enter Tryz.func26, Tryz.ntmps26
  go_wp2_with (go_at_call 64; refine hroom.mono ?_; rintro e w' ⟨rfl, hw⟩; replace hw := hw.symm; subst hw)
  rw [← hp1.2.2]
  refine (hm w ((hr.below ((Below.refl _ w).alloc (Nat.le_refl _) _)).more (by simp))).out.mono ?_
  intro e w2 he
  obtain ⟨A1, c1, rfl, ho1, r1, b1⟩ := he.open_
  clear he hm
  have b3 : Below w.heap.size w w2 := ((Below.refl _ w).alloc (Nat.le_refl _) _).trans (b1.mono (by simp))
  have hf2 := hf.keep (only_of_below b3 none) (fun r e => by cases e)
  have ho2 : Own w2 0 (.slice A1 o.length c1) o := ownsRow_lower ho1 (Nat.zero_le _)
  clear b1 ho1 r1 hp1
  go_wp2
  go_ret
  refine ⟨w2.heap.size + 1, w2.heap.size, rfl, ⟨by have := b3.size; omega, b3.size⟩, ⟨(hf2.keep (World.grownBy_alloc w2 _ none) (fun r e => by cases e)).keep (World.grownBy_alloc _ _ none) (fun r e => by cases e), ⟨_, ?_, (ho2.keep (World.grownBy_alloc w2 _ none) (fun r e => by cases e)).keep (World.grownBy_alloc _ _ none) (fun r e => by cases e)⟩, (World.ownsMap_made w2 _ _ _).alloc _⟩, (b3.alloc b3.size _).alloc (by have := b3.size; rw [size_alloc_]; omega) _⟩
  have h := Blk.new (w2.alloc (Obj.map #[] 0)) 117 #[.pointer (some ⟨f, 0, none⟩), .slice A1 o.length c1, .int .i64 p, .map (some w2.heap.size)]
  rwa [size_alloc_] at h
set_option maxRecDepth 100000 in
set_option maxHeartbeats 400000 in
theorem tpages_any (t m f n k : Nat) (free : List Run) (pages : Int) (D : DataW Value) (w : World) (h : Txn w t m f n free pages k D) :
    Calls Tryz.prog 27 #[.pointer (some ⟨t, 0, none⟩)] w fun e w' => e = .returned (.int .i64 pages) ∧ w' = w := by
  obtain ⟨_, ⟨v, h2, _⟩, _⟩ := h
  have hlt := h2.lt
  have hc := h2.cell 2
  go_enter Tryz.func27, Tryz.ntmps27
  go_wp2
  go_ret
  exact ⟨rfl, rfl⟩
set_option maxRecDepth 100000 in
set_option maxHeartbeats 400000 in
theorem tfree_any (t m f n k : Nat) (free : List Run) (pages : Int) (D : DataW Value) (w : World) (h : Txn w t m f n free pages k D) (hl : free.length ≤ 1000000) :
    Calls Tryz.prog 62 #[.pointer (some ⟨t, 0, none⟩)] w (RunsEnd free w) := by
  obtain ⟨_, ⟨v, h2, h3⟩, _⟩ := h
  have hlt := h2.lt
  have hc := h2.cell 1
  obtain ⟨A, c, rfl⟩ := h3.form
  have hcl := hid_calls (clone_any A c free w (fun e => by
    subst e
    rcases h3.2 with ⟨e, h0⟩ | ⟨g, cap, cur, e, _⟩
    · injection e with _ e1 e2; exact ⟨e1, e2⟩
    · cases e) h3.rs hl)
  go_enter Tryz.func62, Tryz.ntmps62
  go_wp2_with fail
  refine hcl.out.mono ?_
  intro e w1 he
  obtain ⟨A1, c1, rfl, ho1, r1, b1⟩ := he.open_
  clear he
  go_wp2
  go_ret
  exact ⟨_, rfl, ho1, b1⟩
set_option maxRecDepth 100000 in
set_option maxHeartbeats 400000 in
theorem tfresh_any (t m f n k : Nat) (free : List Run) (pages : Int) (D : DataW Value) (id : Int) (hid : (Lit.int .i64 id).wf = true) (w : World) (h : Txn w t m f n free pages k D) :
    Calls Tryz.prog 60 #[.pointer (some ⟨t, 0, none⟩), .int .i64 id] w fun e w' => e = .returned (.bool (Maps.has D (.int .i64 id))) ∧ Below w.heap.size w w' := by
  obtain ⟨_, ⟨v, h2, h3⟩, h4⟩ := h
  have hlt := h2.lt
  have hc := h2.cell 3
  obtain ⟨u, ps, hrun, hu⟩ := h4.look_ok keyedI Tryz.underlying115 (Tryz.zeroValue122 w) (heldR_mk _ _ _) (keyI hid)
  obtain ⟨b, q, s, rfl, _⟩ := heldR_inv hu
  unfold content at hrun
  clear hu
  generalize Maps.has D (.int .i64 id) = hh at *
  go_enter Tryz.func60, Tryz.ntmps60
  go_wp2
  go_ret
  exact ⟨rfl, (Below.refl _ w).alloc (Nat.le_refl _) _⟩
end Go.Proofs.YtlgbcogdogpihaaGreatDoor
