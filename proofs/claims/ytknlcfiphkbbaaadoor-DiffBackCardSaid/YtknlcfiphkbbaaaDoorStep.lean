/- The walk of treediff's step, entries alone. -/
import Derived.Test.YtknlcfiphkbbaaaDoorPair2
namespace Go.Proofs.YtknlcfiphkbbaaaDoor
open Go.RowKit
def StepEnd (on : Bool) (g base : Nat) (a b : List Ent) (out : List Dl) (w : World) (e : Ending) (w' : World) : Prop := e = .returned (.tuple #[.bool on, .int .i64 0]) ∧ PairAt w' g base a b out ∧ Below base w w'
set_option maxRecDepth 100000 in
set_option maxHeartbeats 4000000 in
theorem step_done (g base : Nat) (out : List Dl) (w : World) (h : PairAt w g base [] [] out) (hB : base ≤ w.heap.size) :
    Calls Tryd.prog 17 #[.pointer (some ⟨g, 0, none⟩)] w (StepEnd false g base [] [] (out) w) := by
  have hTa := hid_calls (top_a0 h)
  have hTb := fun W (hP : PairAt W g base [] [] out) => hid_calls (top_b0 hP)
  go_enter Tryd.func17, Tryd.ntmps17
  go_wp2_with fail
  refine hTa.out.mono ?_
  rintro e w1 ⟨rfl, b1⟩
  have hP1 := (h.below b1).below ((Below.refl _ w1).alloc (Nat.le_refl _) (.cells #[.int .i64 0, .int .i64 0, .string ⟨#[]⟩, .string ⟨#[]⟩] 63))
  have hb1 : Below base w (w1.alloc (.cells #[.int .i64 0, .int .i64 0, .string ⟨#[]⟩, .string ⟨#[]⟩] 63)) := (b1.mono hB).alloc (by have := b1.size; omega) _
  have hBx := Blk.new w1 63 #[.int .i64 0, .int .i64 0, .string ⟨#[]⟩, .string ⟨#[]⟩]
  clear hTa h b1
  go_wp2_with fail
  generalize hw : w1.alloc (.cells #[.int .i64 0, .int .i64 0, .string ⟨#[]⟩, .string ⟨#[]⟩] 63) = w2 at *
  generalize hq : w1.heap.size = q at *
  clear hw hq
  refine (hTb _ hP1).out.mono ?_
  rintro e w3 ⟨rfl, b3⟩
  have hP3 := (hP1.below b3).below ((Below.refl _ w3).alloc (Nat.le_refl _) (.cells #[.int .i64 0, .int .i64 0, .string ⟨#[]⟩, .string ⟨#[]⟩] 63))
  have hb3 : Below base w (w3.alloc (.cells #[.int .i64 0, .int .i64 0, .string ⟨#[]⟩, .string ⟨#[]⟩] 63)) := (hb1.trans (b3.mono (by have := hb1.size; omega))).alloc (by have := b3.size; have := hb1.size; omega) _
  have hBx3 := (hBx.below b3 hBx.lt).alloc (.cells #[.int .i64 0, .int .i64 0, .string ⟨#[]⟩, .string ⟨#[]⟩] 63)
  have hBy := Blk.new w3 63 #[.int .i64 0, .int .i64 0, .string ⟨#[]⟩, .string ⟨#[]⟩]
  have hltx := hBx3.lt
  have hlty := hBy.lt
  have x0 := hBx3.cell 0
  have x1 := hBx3.cell 1
  have x2 := hBx3.cell 2
  have x3 := hBx3.cell 3
  have y0 := hBy.cell 0
  have y1 := hBy.cell 1
  have y2 := hBy.cell 2
  have y3 := hBy.cell 3
  clear hTb hP1 hb1 hBx hBx3 hBy b3
  go_wp2_with fail
  go_ret2
  exact ⟨rfl, hP3, hb3⟩
set_option maxRecDepth 100000 in
set_option maxHeartbeats 4000000 in
theorem step_a0 (g base : Nat) (x : Ent) (a : List Ent) (out : List Dl) (w : World) (h : PairAt w g base (x :: a) [] out) (hg : base ≤ g) (hB : base ≤ w.heap.size) (ha : a.length ≤ 100000) (ho : out.length ≤ 100000) :
    Calls Tryd.prog 17 #[.pointer (some ⟨g, 0, none⟩)] w (StepEnd true g base a [] (out ++ [En.dOld x]) w) := by
  have hTa := hid_calls (top_a h (by omega))
  have hTb := fun W (hP : PairAt W g base (x :: a) [] out) => hid_calls (top_b0 hP)
  have hC := fun W hP hBB => hid_calls (only_a g base x a [] out W hP hg hBB ha ho)
  go_enter Tryd.func17, Tryd.ntmps17
  go_wp2_with fail
  refine hTa.out.mono ?_
  rintro e w1 ⟨rfl, b1⟩
  have hP1 := (h.below b1).below ((Below.refl _ w1).alloc (Nat.le_refl _) (.cells #[.int .i64 0, .int .i64 0, .string x.1, .string x.2] 63))
  have hb1 : Below base w (w1.alloc (.cells #[.int .i64 0, .int .i64 0, .string x.1, .string x.2] 63)) := (b1.mono hB).alloc (by have := b1.size; omega) _
  have hBx := Blk.new w1 63 #[.int .i64 0, .int .i64 0, .string x.1, .string x.2]
  clear hTa h b1
  go_wp2_with fail
  generalize hw : w1.alloc (.cells #[.int .i64 0, .int .i64 0, .string x.1, .string x.2] 63) = w2 at *
  generalize hq : w1.heap.size = q at *
  clear hw hq
  refine (hTb _ hP1).out.mono ?_
  rintro e w3 ⟨rfl, b3⟩
  have hP3 := (hP1.below b3).below ((Below.refl _ w3).alloc (Nat.le_refl _) (.cells #[.int .i64 0, .int .i64 0, .string ⟨#[]⟩, .string ⟨#[]⟩] 63))
  have hb3 : Below base w (w3.alloc (.cells #[.int .i64 0, .int .i64 0, .string ⟨#[]⟩, .string ⟨#[]⟩] 63)) := (hb1.trans (b3.mono (by have := hb1.size; omega))).alloc (by have := b3.size; have := hb1.size; omega) _
  have hBx3 := (hBx.below b3 hBx.lt).alloc (.cells #[.int .i64 0, .int .i64 0, .string ⟨#[]⟩, .string ⟨#[]⟩] 63)
  have hBy := Blk.new w3 63 #[.int .i64 0, .int .i64 0, .string ⟨#[]⟩, .string ⟨#[]⟩]
  have hltx := hBx3.lt
  have hlty := hBy.lt
  have x0 := hBx3.cell 0
  have x1 := hBx3.cell 1
  have x2 := hBx3.cell 2
  have x3 := hBx3.cell 3
  have y0 := hBy.cell 0
  have y1 := hBy.cell 1
  have y2 := hBy.cell 2
  have y3 := hBy.cell 3
  clear hTb hP1 hb1 hBx hBx3 hBy b3
  go_wp2_with fail
  refine (hC _ hP3 (by have := hb3.size; omega)).out.mono ?_
  rintro e w4 ⟨rfl, hP4, b4⟩
  go_wp2_with fail
  go_ret2
  exact ⟨rfl, hP4, hb3.trans b4⟩
set_option maxRecDepth 100000 in
set_option maxHeartbeats 4000000 in
theorem step_b0 (g base : Nat) (y : Ent) (b : List Ent) (out : List Dl) (w : World) (h : PairAt w g base [] (y :: b) out) (hg : base ≤ g) (hB : base ≤ w.heap.size) (hb0 : b.length ≤ 100000) (ho : out.length ≤ 100000) :
    Calls Tryd.prog 17 #[.pointer (some ⟨g, 0, none⟩)] w (StepEnd true g base [] b (out ++ [En.dNew y]) w) := by
  have hTa := hid_calls (top_a0 h)
  have hTb := fun W (hP : PairAt W g base [] (y :: b) out) => hid_calls (top_b hP (by omega))
  have hC := fun W hP hBB => hid_calls (only_b g base y [] b out W hP hg hBB hb0 ho)
  go_enter Tryd.func17, Tryd.ntmps17
  go_wp2_with fail
  refine hTa.out.mono ?_
  rintro e w1 ⟨rfl, b1⟩
  have hP1 := (h.below b1).below ((Below.refl _ w1).alloc (Nat.le_refl _) (.cells #[.int .i64 0, .int .i64 0, .string ⟨#[]⟩, .string ⟨#[]⟩] 63))
  have hb1 : Below base w (w1.alloc (.cells #[.int .i64 0, .int .i64 0, .string ⟨#[]⟩, .string ⟨#[]⟩] 63)) := (b1.mono hB).alloc (by have := b1.size; omega) _
  have hBx := Blk.new w1 63 #[.int .i64 0, .int .i64 0, .string ⟨#[]⟩, .string ⟨#[]⟩]
  clear hTa h b1
  go_wp2_with fail
  generalize hw : w1.alloc (.cells #[.int .i64 0, .int .i64 0, .string ⟨#[]⟩, .string ⟨#[]⟩] 63) = w2 at *
  generalize hq : w1.heap.size = q at *
  clear hw hq
  refine (hTb _ hP1).out.mono ?_
  rintro e w3 ⟨rfl, b3⟩
  have hP3 := (hP1.below b3).below ((Below.refl _ w3).alloc (Nat.le_refl _) (.cells #[.int .i64 0, .int .i64 0, .string y.1, .string y.2] 63))
  have hb3 : Below base w (w3.alloc (.cells #[.int .i64 0, .int .i64 0, .string y.1, .string y.2] 63)) := (hb1.trans (b3.mono (by have := hb1.size; omega))).alloc (by have := b3.size; have := hb1.size; omega) _
  have hBx3 := (hBx.below b3 hBx.lt).alloc (.cells #[.int .i64 0, .int .i64 0, .string y.1, .string y.2] 63)
  have hBy := Blk.new w3 63 #[.int .i64 0, .int .i64 0, .string y.1, .string y.2]
  have hltx := hBx3.lt
  have hlty := hBy.lt
  have x0 := hBx3.cell 0
  have x1 := hBx3.cell 1
  have x2 := hBx3.cell 2
  have x3 := hBx3.cell 3
  have y0 := hBy.cell 0
  have y1 := hBy.cell 1
  have y2 := hBy.cell 2
  have y3 := hBy.cell 3
  clear hTb hP1 hb1 hBx hBx3 hBy b3
  go_wp2_with fail
  refine (hC _ hP3 (by have := hb3.size; omega)).out.mono ?_
  rintro e w4 ⟨rfl, hP4, b4⟩
  go_wp2_with fail
  go_ret2
  exact ⟨rfl, hP4, hb3.trans b4⟩
set_option maxRecDepth 100000 in
set_option maxHeartbeats 4000000 in
theorem step_lt (g base : Nat) (x : Ent) (a : List Ent) (y : Ent) (b : List Ent) (out : List Dl) (w : World) (h : PairAt w g base (x :: a) (y :: b) out) (hg : base ≤ g) (hB : base ≤ w.heap.size) (ha : a.length ≤ 100000) (hb0 : b.length ≤ 100000) (ho : out.length ≤ 100000) (hlt : En.lt x.1 y.1 = true) :
    Calls Tryd.prog 17 #[.pointer (some ⟨g, 0, none⟩)] w (StepEnd true g base a (y :: b) (out ++ [En.dOld x]) w) := by
  have hL : Op.bytesLess x.1.toList y.1.toList = true := hlt
  clear hlt
  have hTa := hid_calls (top_a h (by omega))
  have hTb := fun W (hP : PairAt W g base (x :: a) (y :: b) out) => hid_calls (top_b hP (by omega))
  have hC := fun W hP hBB => hid_calls (only_a g base x a (y :: b) out W hP hg hBB ha ho)
  go_enter Tryd.func17, Tryd.ntmps17
  go_wp2_with fail
  refine hTa.out.mono ?_
  rintro e w1 ⟨rfl, b1⟩
  have hP1 := (h.below b1).below ((Below.refl _ w1).alloc (Nat.le_refl _) (.cells #[.int .i64 0, .int .i64 0, .string x.1, .string x.2] 63))
  have hb1 : Below base w (w1.alloc (.cells #[.int .i64 0, .int .i64 0, .string x.1, .string x.2] 63)) := (b1.mono hB).alloc (by have := b1.size; omega) _
  have hBx := Blk.new w1 63 #[.int .i64 0, .int .i64 0, .string x.1, .string x.2]
  clear hTa h b1
  go_wp2_with fail
  generalize hw : w1.alloc (.cells #[.int .i64 0, .int .i64 0, .string x.1, .string x.2] 63) = w2 at *
  generalize hq : w1.heap.size = q at *
  clear hw hq
  refine (hTb _ hP1).out.mono ?_
  rintro e w3 ⟨rfl, b3⟩
  have hP3 := (hP1.below b3).below ((Below.refl _ w3).alloc (Nat.le_refl _) (.cells #[.int .i64 0, .int .i64 0, .string y.1, .string y.2] 63))
  have hb3 : Below base w (w3.alloc (.cells #[.int .i64 0, .int .i64 0, .string y.1, .string y.2] 63)) := (hb1.trans (b3.mono (by have := hb1.size; omega))).alloc (by have := b3.size; have := hb1.size; omega) _
  have hBx3 := (hBx.below b3 hBx.lt).alloc (.cells #[.int .i64 0, .int .i64 0, .string y.1, .string y.2] 63)
  have hBy := Blk.new w3 63 #[.int .i64 0, .int .i64 0, .string y.1, .string y.2]
  have hltx := hBx3.lt
  have hlty := hBy.lt
  have x0 := hBx3.cell 0
  have x1 := hBx3.cell 1
  have x2 := hBx3.cell 2
  have x3 := hBx3.cell 3
  have y0 := hBy.cell 0
  have y1 := hBy.cell 1
  have y2 := hBy.cell 2
  have y3 := hBy.cell 3
  clear hTb hP1 hb1 hBx hBx3 hBy b3
  go_wp2_with fail
  refine (hC _ hP3 (by have := hb3.size; omega)).out.mono ?_
  rintro e w4 ⟨rfl, hP4, b4⟩
  go_wp2_with fail
  go_ret2
  exact ⟨rfl, hP4, hb3.trans b4⟩
set_option maxRecDepth 100000 in
set_option maxHeartbeats 4000000 in
theorem step_gt (g base : Nat) (x : Ent) (a : List Ent) (y : Ent) (b : List Ent) (out : List Dl) (w : World) (h : PairAt w g base (x :: a) (y :: b) out) (hg : base ≤ g) (hB : base ≤ w.heap.size) (ha : a.length ≤ 100000) (hb0 : b.length ≤ 100000) (ho : out.length ≤ 100000) (hlt : En.lt x.1 y.1 = false) (hgt : En.lt y.1 x.1 = true) :
    Calls Tryd.prog 17 #[.pointer (some ⟨g, 0, none⟩)] w (StepEnd true g base (x :: a) b (out ++ [En.dNew y]) w) := by
  have hL : Op.bytesLess x.1.toList y.1.toList = false := hlt
  have hG : Op.bytesLess y.1.toList x.1.toList = true := hgt
  clear hlt hgt
  have hTa := hid_calls (top_a h (by omega))
  have hTb := fun W (hP : PairAt W g base (x :: a) (y :: b) out) => hid_calls (top_b hP (by omega))
  have hC := fun W hP hBB => hid_calls (only_b g base y (x :: a) b out W hP hg hBB hb0 ho)
  go_enter Tryd.func17, Tryd.ntmps17
  go_wp2_with fail
  refine hTa.out.mono ?_
  rintro e w1 ⟨rfl, b1⟩
  have hP1 := (h.below b1).below ((Below.refl _ w1).alloc (Nat.le_refl _) (.cells #[.int .i64 0, .int .i64 0, .string x.1, .string x.2] 63))
  have hb1 : Below base w (w1.alloc (.cells #[.int .i64 0, .int .i64 0, .string x.1, .string x.2] 63)) := (b1.mono hB).alloc (by have := b1.size; omega) _
  have hBx := Blk.new w1 63 #[.int .i64 0, .int .i64 0, .string x.1, .string x.2]
  clear hTa h b1
  go_wp2_with fail
  generalize hw : w1.alloc (.cells #[.int .i64 0, .int .i64 0, .string x.1, .string x.2] 63) = w2 at *
  generalize hq : w1.heap.size = q at *
  clear hw hq
  refine (hTb _ hP1).out.mono ?_
  rintro e w3 ⟨rfl, b3⟩
  have hP3 := (hP1.below b3).below ((Below.refl _ w3).alloc (Nat.le_refl _) (.cells #[.int .i64 0, .int .i64 0, .string y.1, .string y.2] 63))
  have hb3 : Below base w (w3.alloc (.cells #[.int .i64 0, .int .i64 0, .string y.1, .string y.2] 63)) := (hb1.trans (b3.mono (by have := hb1.size; omega))).alloc (by have := b3.size; have := hb1.size; omega) _
  have hBx3 := (hBx.below b3 hBx.lt).alloc (.cells #[.int .i64 0, .int .i64 0, .string y.1, .string y.2] 63)
  have hBy := Blk.new w3 63 #[.int .i64 0, .int .i64 0, .string y.1, .string y.2]
  have hltx := hBx3.lt
  have hlty := hBy.lt
  have x0 := hBx3.cell 0
  have x1 := hBx3.cell 1
  have x2 := hBx3.cell 2
  have x3 := hBx3.cell 3
  have y0 := hBy.cell 0
  have y1 := hBy.cell 1
  have y2 := hBy.cell 2
  have y3 := hBy.cell 3
  clear hTb hP1 hb1 hBx hBx3 hBy b3
  go_wp2_with fail
  refine (hC _ hP3 (by have := hb3.size; omega)).out.mono ?_
  rintro e w4 ⟨rfl, hP4, b4⟩
  go_wp2_with fail
  go_ret2
  exact ⟨rfl, hP4, hb3.trans b4⟩
set_option maxRecDepth 100000 in
set_option maxHeartbeats 4000000 in
theorem step_eq (g base : Nat) (x : Ent) (a : List Ent) (y : Ent) (b : List Ent) (out : List Dl) (w : World) (h : PairAt w g base (x :: a) (y :: b) out) (hg : base ≤ g) (hB : base ≤ w.heap.size) (ha : a.length ≤ 100000) (hb0 : b.length ≤ 100000) (ho : out.length ≤ 100000) (hlt : En.lt x.1 y.1 = false) (hgt : En.lt y.1 x.1 = false) :
    Calls Tryd.prog 17 #[.pointer (some ⟨g, 0, none⟩)] w (StepEnd true g base a b (out ++ En.dBoth x y) w) := by
  have hL : Op.bytesLess x.1.toList y.1.toList = false := hlt
  have hG : Op.bytesLess y.1.toList x.1.toList = false := hgt
  clear hlt hgt
  have hTa := hid_calls (top_a h (by omega))
  have hTb := fun W (hP : PairAt W g base (x :: a) (y :: b) out) => hid_calls (top_b hP (by omega))
  have hC := fun W hP hBB => hid_calls (both_any g base x y a b out W hP hg hBB ha hb0 ho)
  go_enter Tryd.func17, Tryd.ntmps17
  go_wp2_with fail
  refine hTa.out.mono ?_
  rintro e w1 ⟨rfl, b1⟩
  have hP1 := (h.below b1).below ((Below.refl _ w1).alloc (Nat.le_refl _) (.cells #[.int .i64 0, .int .i64 0, .string x.1, .string x.2] 63))
  have hb1 : Below base w (w1.alloc (.cells #[.int .i64 0, .int .i64 0, .string x.1, .string x.2] 63)) := (b1.mono hB).alloc (by have := b1.size; omega) _
  have hBx := Blk.new w1 63 #[.int .i64 0, .int .i64 0, .string x.1, .string x.2]
  clear hTa h b1
  go_wp2_with fail
  generalize hw : w1.alloc (.cells #[.int .i64 0, .int .i64 0, .string x.1, .string x.2] 63) = w2 at *
  generalize hq : w1.heap.size = q at *
  clear hw hq
  refine (hTb _ hP1).out.mono ?_
  rintro e w3 ⟨rfl, b3⟩
  have hP3 := (hP1.below b3).below ((Below.refl _ w3).alloc (Nat.le_refl _) (.cells #[.int .i64 0, .int .i64 0, .string y.1, .string y.2] 63))
  have hb3 : Below base w (w3.alloc (.cells #[.int .i64 0, .int .i64 0, .string y.1, .string y.2] 63)) := (hb1.trans (b3.mono (by have := hb1.size; omega))).alloc (by have := b3.size; have := hb1.size; omega) _
  have hBx3 := (hBx.below b3 hBx.lt).alloc (.cells #[.int .i64 0, .int .i64 0, .string y.1, .string y.2] 63)
  have hBy := Blk.new w3 63 #[.int .i64 0, .int .i64 0, .string y.1, .string y.2]
  have hltx := hBx3.lt
  have hlty := hBy.lt
  have x0 := hBx3.cell 0
  have x1 := hBx3.cell 1
  have x2 := hBx3.cell 2
  have x3 := hBx3.cell 3
  have y0 := hBy.cell 0
  have y1 := hBy.cell 1
  have y2 := hBy.cell 2
  have y3 := hBy.cell 3
  clear hTb hP1 hb1 hBx hBx3 hBy b3
  go_wp2_with fail
  refine (hC _ hP3 (by have := hb3.size; omega)).out.mono ?_
  rintro e w4 ⟨rfl, hP4, b4⟩
  go_wp2_with fail
  go_ret2
  exact ⟨rfl, hP4, hb3.trans b4⟩
end Go.Proofs.YtknlcfiphkbbaaaDoor
