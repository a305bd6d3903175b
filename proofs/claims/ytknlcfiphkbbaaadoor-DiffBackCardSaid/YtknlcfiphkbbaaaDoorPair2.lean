/- The pair of two trees in memory, entries alone; the walks of treediff's only, both. -/
import Derived.Test.YtknlcfiphkbbaaaDoorPair
namespace Go.Proofs.YtknlcfiphkbbaaaDoor
open Go.RowKit
structure PairAt (w : World) (g base : Nat) (a b : List Ent) (out : List Dl) : Prop where
  blk : ∃ va vb vo, Blk w g 50 #[.pointer none, va, .pointer none, vb, vo] ∧ SideV w base va a ∧ SideV w base vb b ∧ LO dlE 37 w base vo out
section
variable {w w' : World} {g base : Nat} {a b : List Ent} {out : List Dl}
theorem PairAt.below (h : PairAt w g base a b out) (hb : Below w.heap.size w w') : PairAt w' g base a b out := by
  obtain ⟨va, vb, vo, h1, h2, h3, h4⟩ := h
  exact ⟨va, vb, vo, h1.below hb h1.lt, h2.below hb, h3.below hb, h4.below hb⟩
theorem PairAt.lt (h : PairAt w g base a b out) : g < w.heap.size := by obtain ⟨_, _, _, h1, _⟩ := h; exact h1.lt
theorem PairAt.setA {x : Ent} {v : Value} {a' : List Ent} (h : PairAt w g base (x :: a) b out) (hv : SideV w base v a') : PairAt (w.setCell ⟨g, 1, none⟩ v) g base a' b out := by
  obtain ⟨va, vb, vo, h1, h2, h3, h4⟩ := h
  exact ⟨v, vb, vo, h1.set_ 1 v, LO.set_ hv h1 (by decide), LO.set_ h3 h1 (by decide), LO.set_ h4 h1 (by decide)⟩
theorem PairAt.setB {x : Ent} {v : Value} {b' : List Ent} (h : PairAt w g base a (x :: b) out) (hv : SideV w base v b') : PairAt (w.setCell ⟨g, 3, none⟩ v) g base a b' out := by
  obtain ⟨va, vb, vo, h1, h2, h3, h4⟩ := h
  exact ⟨va, v, vo, h1.set_ 3 v, LO.set_ h2 h1 (by decide), LO.set_ hv h1 (by decide), LO.set_ h4 h1 (by decide)⟩
/-- something is put behind what was told -/
theorem PairAt.told {v v' : Value} {n : Nat} {d : Dl} {cs : Array Value} (h : PairAt w g base a b out) (hvo : w.cell? ⟨g, 4, none⟩ = some v) (hn : out.length = n) (hcs : cs.toList = dlE.enc d) (hown : w'.ownsRow base 37 5 v' (n + 1) (dlE.cells out ++ cs.toList)) (hg : w.grownBy w' v.ownBlock) :
    PairAt (w'.setCell ⟨g, 4, none⟩ v') g base a b (out ++ [d]) ∧ w'.cell? ⟨g, 4, none⟩ = some v ∧ w'.frozen? ⟨g, 4, none⟩ = false ∧ g < w'.heap.size := by
  obtain ⟨va, vb, vo, h1, h2, h3, h4⟩ := h
  have e : vo = v := by have := h1.cell 4; rw [hvo] at this; simpa using this.symm
  subst e
  have hne : vo.ownBlock ≠ some g := own_blk_ne h4 h1 (by decide)
  have h1' : Blk w' g 50 #[.pointer none, va, .pointer none, vb, vo] := h1.grown hg (fun e => hne e.symm)
  have keepS : ∀ {v0 : Value} {l : List Ent}, SideV w base v0 l → SideV w' base v0 l := fun hs => by
    refine LO.keep hs hg fun r e => ?_
    rcases h4.2 with ⟨e0, _⟩ | ⟨g', cap, cur, e0, _, hh, _⟩
    · rw [e0] at e; cases e
    · rw [e0] at e; injection e with e; subst e
      exact ⟨_, hh, fun cs e => by injection e with _ e; cases e⟩
  have hd : LO dlE 37 w' base v' (out ++ [d]) := LO.snoc hn rfl hcs hown
  refine ⟨⟨va, vb, v', h1'.set_ 4 v', LO.set_ (keepS h2) h1' (by decide), LO.set_ (keepS h3) h1' (by decide), LO.set_ hd h1' (by decide)⟩, h1'.cell 4, h1'.frozen 4, h1'.lt⟩
end
/-- only block g has turned -/
structure At (g : Nat) (w w' : World) : Prop where
  os : w'.os = w.os
  tape : w'.tape = w.tape
  output : w'.output = w.output
  size : w'.heap.size = w.heap.size
  block : ∀ k, k ≠ g → w'.heap[k]? = w.heap[k]?
theorem At.cell {g : Nat} {w w' : World} (h : At g w w') {p : Addr} (hp : p.block ≠ g) : w'.cell? p = w.cell? p := World.cell?_of_block (h.block _ hp)
theorem At.frozen {g : Nat} {w w' : World} (h : At g w w') {p : Addr} (hp : p.block ≠ g) : w'.frozen? p = w.frozen? p := by unfold World.frozen?; rw [h.block _ hp]
theorem At.below {g B : Nat} {w w' : World} (h : At g w w') (hB : B ≤ g) : Below B w w' := ⟨h.os, h.tape, h.output, by rw [h.size]; exact Nat.le_refl _, fun k hk => h.block k (by omega)⟩
theorem At.set_ (g i : Nat) (w : World) (v : Value) : At g w (w.setCell ⟨g, i, none⟩ v).drew := ⟨rfl, rfl, rfl, by simp [World.setCell], fun k hk => Below.heap_setCell _ _ _ _ (by simpa using hk)⟩
section
variable {w : World} {g base : Nat} {a b : List Ent} {x y : Ent} {out : List Dl}
def itemV (x : Ent) : Value := .agg #[.int .i64 0, .int .i64 0, .string x.1, .string x.2]
theorem top_a (h : PairAt w g base (x :: a) b out) (ha : a.length ≤ 1000000) :
    Calls Tryd.prog 27 #[.pointer (some ⟨g, 0, none⟩)] w fun e w' => e = .returned (.tuple #[.agg #[.int .i64 0, .int .i64 0, .string x.1, .string x.2], .bool true]) ∧ Below w.heap.size w w' := by
  obtain ⟨va, vb, vo, h1, h2, h3, h4⟩ := h.blk
  obtain ⟨gi, c, rfl, hgi1, hgi2, hcl, ⟨i0, i1, i2, i3⟩, hs⟩ := h2.cons
  exact top_cons g 0 gi a.length c x w h1.lt hgi2 ha (h1.cell 1) i0 i1 i2 i3
theorem top_b (h : PairAt w g base a (x :: b) out) (hb : b.length ≤ 1000000) :
    Calls Tryd.prog 27 #[.pointer (some ⟨g, 2, none⟩)] w fun e w' => e = .returned (.tuple #[.agg #[.int .i64 0, .int .i64 0, .string x.1, .string x.2], .bool true]) ∧ Below w.heap.size w w' := by
  obtain ⟨va, vb, vo, h1, h2, h3, h4⟩ := h.blk
  obtain ⟨gi, c, rfl, hgi1, hgi2, hcl, ⟨i0, i1, i2, i3⟩, hs⟩ := h3.cons
  exact top_cons g 2 gi b.length c x w h1.lt hgi2 hb (h1.cell 3) i0 i1 i2 i3
theorem top_a0 (h : PairAt w g base [] b out) :
    Calls Tryd.prog 27 #[.pointer (some ⟨g, 0, none⟩)] w fun e w' => e = .returned (.tuple #[.agg #[.int .i64 0, .int .i64 0, .string ⟨#[]⟩, .string ⟨#[]⟩], .bool false]) ∧ Below w.heap.size w w' := by
  obtain ⟨va, vb, vo, h1, h2, h3, h4⟩ := h.blk
  obtain ⟨A, c, rfl⟩ := h2.nil
  exact top_nil g 0 A c w h1.lt (h1.cell 1)
theorem top_b0 (h : PairAt w g base a [] out) :
    Calls Tryd.prog 27 #[.pointer (some ⟨g, 2, none⟩)] w fun e w' => e = .returned (.tuple #[.agg #[.int .i64 0, .int .i64 0, .string ⟨#[]⟩, .string ⟨#[]⟩], .bool false]) ∧ Below w.heap.size w w' := by
  obtain ⟨va, vb, vo, h1, h2, h3, h4⟩ := h.blk
  obtain ⟨A, c, rfl⟩ := h3.nil
  exact top_nil g 2 A c w h1.lt (h1.cell 3)
theorem pop_a (h : PairAt w g base (x :: a) b out) (ha : a.length ≤ 1000000) :
    Calls Tryd.prog 28 #[.pointer (some ⟨g, 0, none⟩)] w fun e w' => e = .returned (.tuple #[]) ∧ PairAt w' g base a b out ∧ At g w w' := by
  obtain ⟨va, vb, vo, h1, h2, h3, h4⟩ := h.blk
  obtain ⟨gi, c, rfl, hgi1, hgi2, hcl, _, hs⟩ := h2.cons
  refine (pop_any g 0 gi a.length c w ha hcl (h1.cell 1) (h1.frozen 1)).mono ?_
  rintro e w' ⟨rfl, rfl⟩
  exact ⟨rfl, (h.setA hs).below (Below.refl _ _).drew, At.set_ g 1 w _⟩
theorem pop_b (h : PairAt w g base a (x :: b) out) (hb : b.length ≤ 1000000) :
    Calls Tryd.prog 28 #[.pointer (some ⟨g, 2, none⟩)] w fun e w' => e = .returned (.tuple #[]) ∧ PairAt w' g base a b out ∧ At g w w' := by
  obtain ⟨va, vb, vo, h1, h2, h3, h4⟩ := h.blk
  obtain ⟨gi, c, rfl, hgi1, hgi2, hcl, _, hs⟩ := h3.cons
  refine (pop_any g 2 gi b.length c w hb hcl (h1.cell 3) (h1.frozen 3)).mono ?_
  rintro e w' ⟨rfl, rfl⟩
  exact ⟨rfl, (h.setB hs).below (Below.refl _ _).drew, At.set_ g 3 w _⟩
end
set_option maxRecDepth 100000 in
set_option maxHeartbeats 2000000 in
theorem only_a (g base : Nat) (x : Ent) (a b : List Ent) (out : List Dl) (w : World) (h : PairAt w g base (x :: a) b out) (hg : base ≤ g) (hB : base ≤ w.heap.size) (ha : a.length ≤ 100000) (ho : out.length ≤ 100000) :
    Calls Tryd.prog 29 #[.pointer (some ⟨g, 0, none⟩), .pointer (some ⟨g, 0, none⟩), .bool true] w fun e w' => e = .returned (.tuple #[]) ∧ PairAt w' g base a b (out ++ [En.dOld x]) ∧ Below base w w' := by
  have hT := hid_calls (top_a h (by omega))
  have hPo := fun W h => hid_calls (pop_a (w := W) (g := g) (base := base) (x := x) (a := a) (b := b) (out := out) h (by omega))
  go_enter Tryd.func29, Tryd.ntmps29
  go_wp2_with fail
  refine hT.out.mono ?_
  rintro e w1 ⟨rfl, b1⟩
  have hP1 := (h.below b1).below ((Below.refl _ w1).alloc (Nat.le_refl _) (.cells #[.int .i64 0, .int .i64 0, .string x.1, .string x.2] 63))
  have hlt1 := (h.below b1).lt
  have hb1 : Below base w (w1.alloc (.cells #[.int .i64 0, .int .i64 0, .string x.1, .string x.2] 63)) := (b1.mono hB).alloc (by have := b1.size; omega) _
  have hbx := Blk.new w1 63 #[.int .i64 0, .int .i64 0, .string x.1, .string x.2]
  go_wp2_with fail
  refine (hPo _ hP1).out.mono ?_
  rintro e w2 ⟨rfl, hP2, at2⟩
  have hq : w1.heap.size ≠ g := by omega
  have hb2 := hb1.trans (at2.below hg)
  have g2 := (at2.cell (p := ⟨w1.heap.size, 2, none⟩) hq).trans (hbx.cell 2)
  have g3 := (at2.cell (p := ⟨w1.heap.size, 3, none⟩) hq).trans (hbx.cell 3)
  have hz : w1.heap.size < w2.heap.size := by rw [at2.size]; simp
  have hz1 : base ≤ w1.heap.size := by have := b1.size; omega
  clear hT hPo hP1 h hb1 hbx b1 hlt1 at2
  generalize w1.heap.size = q at *
  have hltg := hP2.lt
  obtain ⟨va, vb, vo, h1, h2, h3, h4⟩ := hP2.blk
  obtain ⟨Ao, co, rfl⟩ := h4.form
  have hc4 := h1.cell 4
  clear h1 h2 h3
  go_wp2_with fail
  have hbD : Below w2.heap.size w2 (w2.alloc (.cells #[.string x.1, .string x.2, .string ⟨#[]⟩, .bool true, .bool false] 37)).drew := ((Below.refl _ w2).alloc (Nat.le_refl _) _).drew
  have hP3 := hP2.below hbD
  have hown3 := (h4.below hbD).raw rfl (s := 5) rfl
  have hb3 : base ≤ (w2.alloc (.cells #[.string x.1, .string x.2, .string ⟨#[]⟩, .bool true, .bool false] 37)).drew.heap.size := by have := hb2.size; simp; omega
  have hc3 : (w2.alloc (.cells #[.string x.1, .string x.2, .string ⟨#[]⟩, .bool true, .bool false] 37)).drew.cell? ⟨g, 4, none⟩ = some (.slice Ao out.length co) := (hbD.cell (p := ⟨g, 4, none⟩) hltg).trans hc4
  have hb4 := hb2.trans (hbD.mono (by have := hb2.size; omega))
  go_region_law (first | (refine step_app1 rfl (.tmp 31) (.tmp 33) 29 rfl eiDl Tryd.underlying29 rfl (by decide) rfl hown3 rfl (by simp) rfl (by simp [Value.oneCell']) (by unfold maxLen; omega) (by omega) hb3 ?_; intro v' w6 hown' hgrow hbel; obtain ⟨A6, c6, rfl⟩ := own_form hown'; obtain ⟨hP4, hc6, hf6, hl6⟩ := hP3.told (d := En.dOld x) hc3 rfl rfl hown' hgrow))
  all_goals
    go_end0
    exact ⟨rfl, hP4, (hb4.trans hbel).setCell (p := ⟨g, 4, none⟩) hg _⟩
set_option maxRecDepth 100000 in
set_option maxHeartbeats 2000000 in
theorem only_b (g base : Nat) (x : Ent) (a b : List Ent) (out : List Dl) (w : World) (h : PairAt w g base a (x :: b) out) (hg : base ≤ g) (hB : base ≤ w.heap.size) (hb0 : b.length ≤ 100000) (ho : out.length ≤ 100000) :
    Calls Tryd.prog 29 #[.pointer (some ⟨g, 0, none⟩), .pointer (some ⟨g, 2, none⟩), .bool false] w fun e w' => e = .returned (.tuple #[]) ∧ PairAt w' g base a b (out ++ [En.dNew x]) ∧ Below base w w' := by
  have hT := hid_calls (top_b h (by omega))
  have hPo := fun W h => hid_calls (pop_b (w := W) (g := g) (base := base) (x := x) (a := a) (b := b) (out := out) h (by omega))
  go_enter Tryd.func29, Tryd.ntmps29
  go_wp2_with fail
  refine hT.out.mono ?_
  rintro e w1 ⟨rfl, b1⟩
  have hP1 := (h.below b1).below ((Below.refl _ w1).alloc (Nat.le_refl _) (.cells #[.int .i64 0, .int .i64 0, .string x.1, .string x.2] 63))
  have hlt1 := (h.below b1).lt
  have hb1 : Below base w (w1.alloc (.cells #[.int .i64 0, .int .i64 0, .string x.1, .string x.2] 63)) := (b1.mono hB).alloc (by have := b1.size; omega) _
  have hbx := Blk.new w1 63 #[.int .i64 0, .int .i64 0, .string x.1, .string x.2]
  go_wp2_with fail
  refine (hPo _ hP1).out.mono ?_
  rintro e w2 ⟨rfl, hP2, at2⟩
  have hq : w1.heap.size ≠ g := by omega
  have hb2 := hb1.trans (at2.below hg)
  have g2 := (at2.cell (p := ⟨w1.heap.size, 2, none⟩) hq).trans (hbx.cell 2)
  have g3 := (at2.cell (p := ⟨w1.heap.size, 3, none⟩) hq).trans (hbx.cell 3)
  have hz : w1.heap.size < w2.heap.size := by rw [at2.size]; simp
  have hz1 : base ≤ w1.heap.size := by have := b1.size; omega
  clear hT hPo hP1 h hb1 hbx b1 hlt1 at2
  generalize w1.heap.size = q at *
  have hltg := hP2.lt
  obtain ⟨va, vb, vo, h1, h2, h3, h4⟩ := hP2.blk
  obtain ⟨Ao, co, rfl⟩ := h4.form
  have hc4 := h1.cell 4
  clear h1 h2 h3
  go_wp2_with fail
  have hbD : Below w2.heap.size w2 (w2.alloc (.cells #[.string x.1, .string ⟨#[]⟩, .string x.2, .bool false, .bool true] 37)).drew := ((Below.refl _ w2).alloc (Nat.le_refl _) _).drew
  have hP3 := hP2.below hbD
  have hown3 := (h4.below hbD).raw rfl (s := 5) rfl
  have hb3 : base ≤ (w2.alloc (.cells #[.string x.1, .string ⟨#[]⟩, .string x.2, .bool false, .bool true] 37)).drew.heap.size := by have := hb2.size; simp; omega
  have hc3 : (w2.alloc (.cells #[.string x.1, .string ⟨#[]⟩, .string x.2, .bool false, .bool true] 37)).drew.cell? ⟨g, 4, none⟩ = some (.slice Ao out.length co) := (hbD.cell (p := ⟨g, 4, none⟩) hltg).trans hc4
  have hb4 := hb2.trans (hbD.mono (by have := hb2.size; omega))
  go_region_law (first | (refine step_app1 rfl (.tmp 31) (.tmp 33) 29 rfl eiDl Tryd.underlying29 rfl (by decide) rfl hown3 rfl (by simp) rfl (by simp [Value.oneCell']) (by unfold maxLen; omega) (by omega) hb3 ?_; intro v' w6 hown' hgrow hbel; obtain ⟨A6, c6, rfl⟩ := own_form hown'; obtain ⟨hP4, hc6, hf6, hl6⟩ := hP3.told (d := En.dNew x) hc3 rfl rfl hown' hgrow))
  all_goals
    go_end0
    exact ⟨rfl, hP4, (hb4.trans hbel).setCell (p := ⟨g, 4, none⟩) hg _⟩
theorem dBoth_eq (x y : Ent) : En.dBoth x y = if En.eqs x.2 y.2 then [] else [⟨x.1, x.2, y.2, true, true⟩] := rfl
set_option maxRecDepth 100000 in
set_option maxHeartbeats 2000000 in
theorem both_any (g base : Nat) (x y : Ent) (a b : List Ent) (out : List Dl) (w : World) (h : PairAt w g base (x :: a) (y :: b) out) (hg : base ≤ g) (hB : base ≤ w.heap.size) (ha : a.length ≤ 100000) (hb0 : b.length ≤ 100000) (ho : out.length ≤ 100000) :
    Calls Tryd.prog 31 #[.pointer (some ⟨g, 0, none⟩), .agg #[.int .i64 0, .int .i64 0, .string x.1, .string x.2], .agg #[.int .i64 0, .int .i64 0, .string y.1, .string y.2]] w fun e w' => e = .returned (.tuple #[]) ∧ PairAt w' g base a b (out ++ En.dBoth x y) ∧ Below base w w' := by
  have hPa := fun W h => hid_calls (pop_a (w := W) (g := g) (base := base) (x := x) (a := a) (b := y :: b) (out := out) h (by omega))
  have hPb := fun W h => hid_calls (pop_b (w := W) (g := g) (base := base) (x := y) (a := a) (b := b) (out := out) h (by omega))
  have hbX : Below w.heap.size w ((w.alloc (.cells #[.int .i64 0, .int .i64 0, .string x.1, .string x.2] 63)).alloc (.cells #[.int .i64 0, .int .i64 0, .string y.1, .string y.2] 63)) := ((Below.refl _ w).alloc (Nat.le_refl _) _).alloc (by simp) _
  have hP0 := h.below hbX
  have hBx := (Blk.new w 63 #[.int .i64 0, .int .i64 0, .string x.1, .string x.2]).alloc (.cells #[.int .i64 0, .int .i64 0, .string y.1, .string y.2] 63)
  have hBy := Blk.new (w.alloc (.cells #[.int .i64 0, .int .i64 0, .string x.1, .string x.2] 63)) 63 #[.int .i64 0, .int .i64 0, .string y.1, .string y.2]
  rw [World.size_alloc] at hBy
  have hq : w.heap.size ≠ g := by have := h.lt; omega
  have hq2 : w.heap.size + 1 ≠ g := by have := h.lt; omega
  have hb1 := hbX.mono hB
  clear h hbX
  go_enter Tryd.func31, Tryd.ntmps31
  go_wp2_with fail
  generalize hw : ((w.alloc (.cells #[.int .i64 0, .int .i64 0, .string x.1, .string x.2] 63)).alloc (.cells #[.int .i64 0, .int .i64 0, .string y.1, .string y.2] 63)) = w1 at *
  generalize hqx : w.heap.size = q at *
  clear hw
  refine (hPa _ hP0).out.mono ?_
  rintro e w2 ⟨rfl, hP2, at2⟩
  have gx2 := (at2.cell (p := ⟨q, 2, none⟩) hq).trans (hBx.cell 2)
  have gx3 := (at2.cell (p := ⟨q, 3, none⟩) hq).trans (hBx.cell 3)
  have gy3 := (at2.cell (p := ⟨q + 1, 3, none⟩) hq2).trans (hBy.cell 3)
  have hb2 := hb1.trans (at2.below hg)
  have hz2 : q + 1 < w2.heap.size := by rw [at2.size]; exact hBy.lt
  clear hP0 at2 hBx hBy hb1 hPa
  go_wp2_with fail
  refine (hPb _ hP2).out.mono ?_
  rintro e w3 ⟨rfl, hP3, at3⟩
  have g2 := (at3.cell (p := ⟨q, 2, none⟩) hq).trans gx2
  have g3 := (at3.cell (p := ⟨q, 3, none⟩) hq).trans gx3
  have gy := (at3.cell (p := ⟨q + 1, 3, none⟩) hq2).trans gy3
  have hb3 := hb2.trans (at3.below hg)
  have hz3 : q + 1 < w3.heap.size := by rw [at3.size]; exact hz2
  have hz4 : q < w3.heap.size := by omega
  clear hP2 at3 hb2 gx2 gx3 gy3 hz2 hPb
  have hltg := hP3.lt
  obtain ⟨va, vb, vo, h1, h2, h3, h4⟩ := hP3.blk
  obtain ⟨Ao, co, rfl⟩ := h4.form
  have hc4 := h1.cell 4
  clear h1 h2 h3
  cases heq : En.eqs x.2 y.2 with
  | true =>
    have hEq : (x.2.toList == y.2.toList) = true := heq
    have hne : (!(x.2.toList == y.2.toList)) = false := by rw [hEq]; rfl
    have hfin : out ++ En.dBoth x y = out := by rw [dBoth_eq, heq]; simp
    have HF := Lib.hid hfin
    clear heq hfin
    go_wp2_with fail
    go_end0
    exact ⟨rfl, by rw [HF.out]; exact hP3, hb3⟩
  | false =>
    have hEq : (x.2.toList == y.2.toList) = false := heq
    have hne : (!(x.2.toList == y.2.toList)) = true := by rw [hEq]; rfl
    have hfin : out ++ En.dBoth x y = out ++ [⟨x.1, x.2, y.2, true, true⟩] := by rw [dBoth_eq, heq]; rfl
    have HF := Lib.hid hfin
    clear heq hfin
    go_wp2_with fail
    have hbD : Below w3.heap.size w3 w3.drew := (Below.refl _ w3).drew
    have hP4 := hP3.below hbD
    have hown3 := (h4.below hbD).raw rfl (s := 5) rfl
    have hb4 : base ≤ w3.drew.heap.size := by have := hb3.size; simp; omega
    have hc3 : w3.drew.cell? ⟨g, 4, none⟩ = some (.slice Ao out.length co) := hc4
    have hb5 := hb3.trans (hbD.mono (by have := hb3.size; omega))
    go_region_law (first | (refine step_app1 rfl (.tmp 23) (.tmp 31) 29 rfl eiDl Tryd.underlying29 rfl (by decide) rfl hown3 rfl (by simp) rfl (by simp [Value.oneCell']) (by unfold maxLen; omega) (by omega) hb4 ?_; intro v' w6 hown' hgrow hbel; obtain ⟨A6, c6, rfl⟩ := own_form hown'; obtain ⟨hP5, hc6, hf6, hl6⟩ := hP4.told (d := ⟨x.1, x.2, y.2, true, true⟩) hc3 rfl rfl hown' hgrow))
    all_goals
      go_end0
      exact ⟨rfl, by rw [HF.out]; exact hP5, (hb5.trans hbel).setCell (p := ⟨g, 4, none⟩) hg _⟩
end Go.Proofs.YtknlcfiphkbbaaaDoor
