/- The walks of slices.Backward and of treediff.whole over entries. -/
import Derived.Test.YtknlcfiphkbbaaaDoorBack
import Derived.Test.YtknlcfiphkbbaaaDoorPair
namespace Go.Proofs.YtknlcfiphkbbaaaDoor
open Go.RowKit Go.Shelf
attribute [local go_sem] Oper.semAt_some
theorem wpListIn_app1 {F : Fence} {n : Nat} {P : Program} {w : World} {ops : Array Oper} {rest : List Oper} {o : Oper} {a : Act} {Q : Exit → Act → World → Prop} (hgd : o.guard = none) (s x : Operand) (t : TypeId)
    (ho : o.op = .call { callee := .builtin .append, args := #[s, x], argTypes := #[t, t] })
    {base : Nat} {e : TypeId} {z : Value} {size bytes : Nat} (hE : EI P e z size bytes) (ht : P.underlying t = some (.slice e)) (hzs : z.cells.size = size) (hsz : 0 < size)
    {v : Value} {m : Nat} {xs : List Value} (hs : a.eval s = v) (hown : w.ownsRow base e size v m xs)
    {cs : Array Value} {te : TypeId} {gx : Nat} (hx : a.eval x = .slice (some ⟨gx, 0, none⟩) 1 1) (hgx : gx = w.heap.size) (hl : cs.size = size) (h1 : ∀ u ∈ cs.toList, u.oneCell' = true)
    (hb63 : m + 1 ≤ maxLen) (hbytes : (m + 1) * bytes ≤ 140737488355328) (hbase : base ≤ w.heap.size)
    (h : ∀ v' w', w'.ownsRow base e size v' (m + 1) (xs ++ cs.toList) → w.grownBy w' v.ownBlock → Below base w w' → wpListIn F n P ops Q rest (a.put o.dst v') w') : wpListIn F n P ops Q (o :: rest) a (w.alloc (.cells cs te)) := by
  obtain ⟨i, hi, hz0, hz1, hz2⟩ := hE
  subst hgx
  have hcell : ∀ j u, cs.toList[j]? = some u → (w.alloc (.cells cs te)).cell? ((⟨w.heap.size, 0, none⟩ : Addr).add j) = some u := by
    intro j u hu
    have e1 : ((⟨w.heap.size, 0, none⟩ : Addr).add j) = ⟨w.heap.size, j, none⟩ := by rw [Addr.add_lit]; simp
    rw [e1, (Blk.new w te cs).cell j]
    simpa using hu
  refine wpListIn_append_own _ hgd s x t ho base e i z size bytes ht hi hz0 hz1 hz2 hzs hsz v m xs hs (hown.alloc _) ⟨w.heap.size, 0, none⟩ 1 1 cs.toList hx (by simp [hl]) hcell h1 hb63 hbytes (by simp; omega) fun v' w' h2 h3 _ => ?_
  have hg : w.grownBy w' v.ownBlock := (World.grownBy_alloc w _ _).trans h3
  exact h v' w' h2 hg ((Below.refl _ _).grown hg hbase fun k hk => (hown.lt k hk).1)
set_option maxRecDepth 100000 in
set_option maxHeartbeats 400000 in
theorem back_any (A : Option Addr) (n c : Nat) (w : World) :
    Calls Tryd.prog 26 #[.slice A n c] w fun e w' => e = .returned (.func (.func 36) #[] #[.pointer (some ⟨w.heap.size, 0, none⟩)]) ∧ w' = w.alloc (.cells #[.slice A n c] 22) := by
  go_enter Tryd.func26, Tryd.ntmps26
  go_wp2
  go_ret
  exact ⟨rfl, rfl⟩
theorem blk_nc {W W' : World} {g : Nat} {ty : TypeId} {cs : Array Value} {row : Option Nat} (h : Blk W g ty cs) (hg : W.grownBy W' row) (hr : ∀ r, row = some r → ∃ o : Obj, W.heap[r]? = some o ∧ o.isCells = false) : Blk W' g ty cs := by
  refine (hg.block g h.lt ?_).trans h
  intro e
  obtain ⟨o, ho, hne⟩ := hr g e.symm
  unfold Blk at h
  rw [h] at ho; cases ho
  cases hne
theorem LO.nc {α : Type} {E : Enc α} {ty : TypeId} {W W' : World} {base : Nat} {v : Value} {l : List α} {row : Option Nat} (h : LO E ty W base v l) (hg : W.grownBy W' row) (hr : ∀ r, row = some r → ∃ o : Obj, W.heap[r]? = some o ∧ o.isCells = false) : LO E ty W' base v l :=
  h.keep hg fun r e => by
    obtain ⟨o, ho, hne⟩ := hr r e
    exact ⟨o, ho, fun cs e => by rw [e] at hne; cases hne⟩
/-- what a round over Backward keeps -/
def KpW (n₀ Bn : Nat) (W W' : World) : Prop := Below n₀ W W' ∧ ∀ cs, Blk W Bn 22 cs → Blk W' Bn 22 cs
theorem kpW_t {n₀ Bn : Nat} {W1 W2 W3 : World} (h : KpW n₀ Bn W1 W2) (k : KpW n₀ Bn W2 W3) : KpW n₀ Bn W1 W3 := ⟨h.1.trans k.1, fun cs hb => k.2 cs (h.2 cs hb)⟩
theorem kpW_b {n₀ Bn : Nat} {w : World} (hn : n₀ ≤ w.heap.size) (W : World) (l : Nat) (o o' : Obj) (hl : w.heap.size ≤ l) (h : W.heap[l]? = some o) (hc : o.isCells = false) (hw : o.isWalk = false) : KpW n₀ Bn W (W.putObj l o') :=
  ⟨belowK_b hn W l o o' hl h hc hw, fun cs hb => by
    have hne : l ≠ Bn := fun e => by subst e; unfold Blk at hb; rw [h] at hb; injection hb with e; subst e; cases hc
    unfold Blk at *
    simp [World.putObj, hne, hb]⟩
set_option maxRecDepth 100000 in
set_option maxHeartbeats 2000000 in
theorem whole_any (A : Option Addr) (c : Nat) (l : List Ent) (hl : l.length ≤ 100000) (w : World) (hr : LS entE w w.heap.size A l) :
    Calls Tryd.prog 16 #[.slice A l.length c] w fun e w' => ∃ v, e = .returned (.agg #[.pointer none, v]) ∧ SideV w' w.heap.size v l ∧ Below w.heap.size w w' := by
  refine (callsIn_wide (n := 2)).1 ?_
  refine callsIn_of_wp_marks Tryd.func16 rfl trivial ?_ rfl
  simp only [Tryd.ntmps16, List.size_toArray, List.length_cons, List.length_nil, Nat.reduceAdd, Nat.reduceSub, Array.replicate_succ, Array.replicate_zero, List.push_toArray, List.append_toArray, List.nil_append, List.cons_append]
  gi_wp2_with (refine ⟨trivial, ?_⟩; gi_at_call 26; refine (callsIn_wide.2 (back_any A l.length c _)).mono ?_; rintro e w' ⟨rfl, rfl⟩)
  have hB0 : Below w.heap.size w (((w.alloc (.cells #[.pointer none, .slice none 0 0] 47)).alloc (.cells #[.pointer none, .slice none 0 0] 47)).alloc (.cells #[.slice A l.length c] 22)) := (((Below.refl _ w).alloc (Nat.le_refl _) _).alloc (by simp) _).alloc (by simp; omega) _
  have hR := ((Blk.new w 47 #[.pointer none, .slice none 0 0]).alloc (.cells #[.pointer none, .slice none 0 0] 47)).alloc (.cells #[.slice A l.length c] 22)
  have hS := (Blk.new (w.alloc (.cells #[.pointer none, .slice none 0 0] 47)) 47 #[.pointer none, .slice none 0 0]).alloc (.cells #[.slice A l.length c] 22)
  have hV := Blk.new ((w.alloc (.cells #[.pointer none, .slice none 0 0] 47)).alloc (.cells #[.pointer none, .slice none 0 0] 47)) 22 #[.slice A l.length c]
  simp only [World.size_alloc] at hS hV
  have hsz : (((w.alloc (.cells #[.pointer none, .slice none 0 0] 47)).alloc (.cells #[.pointer none, .slice none 0 0] 47)).alloc (.cells #[.slice A l.length c] 22)).heap.size = w.heap.size + 1 + 1 + 1 := by simp
  obtain ⟨wl, hwl⟩ : ∃ wl, (((w.alloc (.cells #[.pointer none, .slice none 0 0] 47)).alloc (.cells #[.pointer none, .slice none 0 0] 47)).alloc (.cells #[.slice A l.length c] 22)) = wl := ⟨_, rfl⟩
  rw [hwl] at hB0 hR hS hV hsz ⊢
  clear hwl
  have hseq : SeqStopsK Fence.wide 1 Tryd.prog 36 #[.pointer (some ⟨w.heap.size + 1 + 1, 0, none⟩)] encP (KpW w.heap.size (w.heap.size + 1 + 1)) (fun ys => ys = downs l) (fun pre => pre <+: downs l) l.length wl := by
    intro lp J Jx W hW hJ _ hY h0
    refine back1_in lp (w.heap.size + 1 + 1) c A l (by omega) J Jx (KpW w.heap.size (w.heap.size + 1 + 1)) W (fun W => ⟨Below.refl _ _, fun _ h => h⟩) (fun _ _ _ => kpW_t) (fun W' hk => ?_) hY h0
    have hbV := hk.2 _ (hV.below hW (by omega))
    have hbW := hB0.trans ((hW.mono (by omega)).trans hk.1)
    exact ⟨(hr.below hbW).more hbW.size, hbV.cell 0⟩
  refine wpIn_rangeFunc_ownH rfl (by decide) (gf := 36) (lb := #[.pointer (some ⟨w.heap.size + 1 + 1, 0, none⟩)]) rfl trivial (enters_of Tryd.func36 (by kernel_rfl) rfl)
    hseq kpW_t (kpW_b (by omega)) (Below.refl _ _) (fun _ => rfl)
    (fun pre W => (∃ v, Blk W (w.heap.size + 1) 47 #[.pointer none, v] ∧ Blk W w.heap.size 47 #[.pointer none, .slice none 0 0] ∧ LO itemE 63 W w.heap.size v (pre.map (·.2))) ∧ Below w.heap.size w W)
    (fun _ _ _ => False)
    (OwnFrom.and (fun s W1 W2 row hs hg hr => by obtain ⟨v, a1, a2, a3⟩ := hs; exact ⟨v, blk_nc a1 hg fun r e => (hr r e).2, blk_nc a2 hg fun r e => (hr r e).2, a3.nc hg fun r e => (hr r e).2⟩) (ownFrom_below (Nat.le_refl _) (by omega)))
    (fun _ _ _ _ _ h _ _ => h)
    ⟨⟨_, hS, hR, LO.nil_ _ _⟩, hB0⟩
    (fun x a' W => ∃ Bx, w.heap.size + 1 < Bx ∧ Blk W Bx 39 #[.string x.2.1, .string x.2.2] ∧ a' = { tmps := #[.slice A l.length c, undef, .pointer (some ⟨w.heap.size, 0, none⟩), .pointer (some ⟨w.heap.size + 1, 0, none⟩), undef, .pointer (some ⟨Bx, 0, none⟩), .slice A l.length c, .func (.func 36) #[] #[.pointer (some ⟨w.heap.size + 1 + 1, 0, none⟩)], .int .i64 x.1, .agg #[.string x.2.1, .string x.2.2], undef, undef, undef, undef, undef, undef, undef, undef, undef, undef, undef], defers := [] })
    (fun x a' _ W1 W2 row hs hg hr => by obtain ⟨Bx, b1, b2, b3⟩ := hs; exact ⟨Bx, b1, blk_nc b2 hg fun r e => (hr r e).2, b3⟩)
    ?assign ?body ?done ?stop
  case assign =>
    rintro lp pre x W K ⟨⟨v, a1, a2, a3⟩, hB⟩ hK
    unfold encP at *
    gi_wp2
    exact hK _ _ ((KeepsOthers.alloc _ _).from _) ⟨(Below.refl _ W).alloc hB.size _, fun _ h => h.alloc _⟩ ⟨⟨v, a1.alloc _, a2.alloc _, a3.alloc _⟩, hB.alloc hB.size _⟩ ⟨W.heap.size, a1.lt, Blk.new W _ _, rfl⟩
  case body =>
    rintro lp pre x a' W hlp _ ⟨⟨v, a1, a2, a3⟩, hB⟩ ⟨Bx, hBx, hbx, rfl⟩ hlt
    have hl1 := a1.lt
    have hl2 := hbx.lt
    have c1 := a1.cell 1
    have x0 := hbx.cell 0
    have x1 := hbx.cell 1
    obtain ⟨Av, cv, rfl⟩ := a3.form
    rw [List.length_map] at c1 a1 a3
    have hraw := a3.raw (List.length_map _) (s := 4) rfl
    have hmap : (pre ++ [x]).map (·.2) = pre.map (·.2) ++ [x.2] := by simp
    gi_wp2_with (gi_at_builtin; refine wpListIn_app1 rfl (.tmp 11) (.tmp 17) 45 rfl eiItem Tryd.underlying45 rfl (by decide) rfl hraw rfl (by simp) rfl (by simp [Value.oneCell']) (by unfold maxLen; omega) (by omega) hB.size ?_; intro v' w1 hown' hgrow hbel; obtain ⟨A6, c6, rfl⟩ := own_form hown'; have a1' := a1.grown hgrow (Ne.symm (own_blk_ne hraw a1 (by decide))); have d1 := a1'.cell 1; have f1 := a1'.frozen 1; have l1 := a1'.lt)
    have a2' := a2.grown hgrow (Ne.symm (own_blk_ne hraw a2 (by decide)))
    refine ⟨KeepsOthers.from ((KeepsOthers.of_grownBy hgrow fun j o hj ho => ?_).trans (KeepsOthers.setCell _ _ _)) _, ⟨hbel.setCell (p := ⟨w.heap.size + 1, 1, none⟩) (by simp) _, fun cs hbn => ?_⟩, ⟨_, a1'.set_ 1 _, a2'.far (by simp) _, ?_⟩, (hB.trans hbel).setCell (p := ⟨w.heap.size + 1, 1, none⟩) (by simp) _⟩
    · obtain ⟨cs, hcs⟩ := own_obj hraw hj
      rw [hcs] at ho; cases ho; rfl
    · exact (hbn.grown hgrow (Ne.symm (own_blk_ne hraw hbn (by decide)))).far (by simp) _
    · rw [hmap]
      exact LO.set_ (LO.snoc (E := itemE) (List.length_map _) rfl rfl hown') a1' (by decide)
  case done =>
    rintro D ys W hD rfl ⟨⟨v, a1, a2, a3⟩, hB⟩ hK
    have hl1 := a1.lt
    have hl2 := a2.lt
    have c0 := a1.cell 0
    have c1 := a1.cell 1
    have r0 := a2.cell 0
    have r1 := a2.cell 1
    have rf0 := a2.frozen 0
    have rf1 := a2.frozen 1
    have hrev : (downs l).map (·.2) = l.reverse := downs_rev l
    rw [hrev] at a3
    obtain ⟨Av, cv, rfl⟩ := a3.form
    have a3 : SideV W w.heap.size (.slice Av l.reverse.length cv) l := a3
    rw [List.length_reverse] at a1 a3 c1
    gi_wp2
    have hK1 := ((KeepsOthers.setCell W ⟨w.heap.size, 0, none⟩ (.pointer none)).trans (KeepsOthers.setCell _ ⟨w.heap.size, 1, none⟩ (.slice Av l.length cv))).same D _ hK rfl
    have a2' := (a2.set_ 0 (.pointer none)).set_ 1 (.slice Av l.length cv)
    have a3' := LO.set_ (i := 1) (u := .slice Av l.length cv) (LO.set_ (i := 0) (u := .pointer none) (show LO itemE 63 W w.heap.size (.slice Av l.length cv) l.reverse from a3) a2 (by decide)) (a2.set_ 0 (.pointer none)) (by decide)
    have hB2 := (hB.setCell (p := ⟨w.heap.size, 0, none⟩) (Nat.le_refl _) (.pointer none)).setCell (p := ⟨w.heap.size, 1, none⟩) (Nat.le_refl _) (.slice Av l.length cv)
    generalize ((W.setCell ⟨w.heap.size, 0, none⟩ (.pointer none)).setCell ⟨w.heap.size, 1, none⟩ (.slice Av l.length cv)) = W2 at *
    refine ⟨by simp, .inl ⟨_, _, rfl, run_takeDeferred hK1, ?_⟩⟩
    have a2n := blk_nc a2' (grownBy_putObj' _ D (.deferred none)) (fun r e => by cases e; exact ⟨_, hK1, rfl⟩)
    have a3n := a3'.nc (grownBy_putObj' _ D (.deferred none)) (fun r e => by cases e; exact ⟨_, hK1, rfl⟩)
    have h0 := a2n.cell 0
    have h1 := a2n.cell 1
    refine ⟨.agg #[.pointer none, .slice Av l.length cv], ?_, _, rfl, a3n, hB2.trans (belowK_b (w := w) (Nat.le_refl _) W2 D _ _ (by omega) hK1 rfl rfl)⟩
    simp [results, Tryd.f16, go_sem, h0, h1]
  case stop =>
    rintro D k pre W hD hpre ⟨⟩
end Go.Proofs.YtknlcfiphkbbaaaDoor
