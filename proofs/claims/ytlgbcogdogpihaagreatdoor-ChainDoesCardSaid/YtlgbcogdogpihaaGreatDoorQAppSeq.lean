/- The walk of slices.AppendSeq over slices.Values. -/
import Derived.Test.YtlgbcogdogpihaaGreatDoorQValues
namespace Go.Proofs.YtlgbcogdogpihaaGreatDoor
open Go.RowKit Go.Shelf
attribute [local go_sem] Oper.semAt_some
theorem wpListIn_app1 {F : Fence} {n : Nat} {P : Program} {w : World} {ops : Array Oper} {rest : List Oper} {o : Oper} {a : Act} {Q : Exit → Act → World → Prop} (hgd : o.guard = none) (s x : Operand) (t : TypeId)
    (ho : o.op = .call { callee := .builtin .append, args := #[s, x], argTypes := #[t, t] })
    {base : Nat} {e : TypeId} {z : Value} {size bytes : Nat} (hE : EI P e z size bytes) (ht : P.underlying t = some (.slice e)) (hzs : z.cells.size = size) (hsz : 0 < size)
    {v : Value} {m : Nat} {xs : List Value} (hs : a.eval s = v) (hown : w.ownsRow base e size v m xs)
    {cs : Array Value} {te : TypeId} {gx : Nat} (hx : a.eval x = .slice (some ⟨gx, 0, none⟩) 1 1) (hgx : gx = w.heap.size) (hl : cs.size = size) (h1 : ∀ u ∈ cs.toList, u.oneCell' = true)
    (hb63 : m + 1 ≤ maxLen) (hbytes : (m + 1) * bytes ≤ 140737488355328) (hbase : base ≤ w.heap.size)
    (h : ∀ v' w', w'.ownsRow base e size v' (m + 1) (xs ++ cs.toList) → w.grownBy w' v.ownBlock → Below base w w' → wpListIn F n P ops Q rest (a.put o.dst v') w') : wpListIn F n P ops Q (o :: rest) a (w.alloc (.cells cs te)) := by
  obtain ⟨i, hi, hz0, hz1, hz2⟩ := hE
  subst hgx
  have hcell : ∀ j u, cs.toList[j]? = some u → (w.alloc (.cells cs te)).cell? ((⟨w.heap.size, 0, none⟩ : Addr).add j) = some u := by
    intro j u hu
    have e1 : ((⟨w.heap.size, 0, none⟩ : Addr).add j) = ⟨w.heap.size, j, none⟩ := by rw [Addr.add_lit]; simp
    rw [e1, (Blk.new w te cs).cell j]
    simpa using hu
  refine wpListIn_append_own _ hgd s x t ho base e i z size bytes ht hi hz0 hz1 hz2 hzs hsz v m xs hs (hown.alloc _) ⟨w.heap.size, 0, none⟩ 1 1 cs.toList hx (by simp [hl]) hcell h1 hb63 hbytes (by simp; omega) fun v' w' h2 h3 _ => ?_
  have hg : w.grownBy w' v.ownBlock := (World.grownBy_alloc w _ _).trans h3
  exact h v' w' h2 hg ((Below.refl _ _).grown hg hbase fun k hk => (hown.lt k hk).1)
theorem blk_nc {W W' : World} {g : Nat} {ty : TypeId} {cs : Array Value} {row : Option Nat} (h : Blk W g ty cs) (hg : W.grownBy W' row) (hr : ∀ r, row = some r → ∃ o : Obj, W.heap[r]? = some o ∧ o.isCells = false) : Blk W' g ty cs := by
  refine (hg.block g h.lt ?_).trans h
  intro e
  obtain ⟨o, ho, hne⟩ := hr g e.symm
  unfold Blk at h
  rw [h] at ho; cases ho
  cases hne
theorem LO.nc {α : Type} {E : Enc α} {ty : TypeId} {W W' : World} {base : Nat} {v : Value} {l : List α} {row : Option Nat} (h : LO E ty W base v l) (hg : W.grownBy W' row) (hr : ∀ r, row = some r → ∃ o : Obj, W.heap[r]? = some o ∧ o.isCells = false) : LO E ty W' base v l :=
  h.keep hg fun r e => by
    obtain ⟨o, ho, hne⟩ := hr r e
    exact ⟨o, ho, fun cs e => by rw [e] at hne; cases hne⟩
set_option maxRecDepth 100000 in
set_option maxHeartbeats 2000000 in
theorem appseq_any (A : Option Addr) (c Bn : Nat) (zs : List Int) (hl : zs.length ≤ 100000) (w : World) (hr : LS intE w w.heap.size A zs) (hb : Blk w Bn 28 #[.slice A zs.length c]) :
    Calls Tryz.prog 124 #[.slice none 0 0, .func (.func 85) #[] #[.pointer (some ⟨Bn, 0, none⟩)]] w (LEnd intE 3 zs w) := by
  refine (callsIn_wide (n := 2)).1 ?_
  refine callsIn_of_wp_marks Tryz.func124 rfl trivial ?_ rfl
  simp only [Tryz.ntmps124, List.size_toArray, List.length_cons, List.length_nil, Nat.reduceAdd, Nat.reduceSub, Array.replicate_succ, Array.replicate_zero, List.push_toArray, List.append_toArray, List.nil_append, List.cons_append]
  gi_wp2
  have hB0 : Below w.heap.size w (w.alloc (.cells #[.slice none 0 0] 28)) := (Below.refl _ w).alloc (Nat.le_refl _) _
  have hS := Blk.new w 28 #[.slice none 0 0]
  have hsz : (w.alloc (.cells #[.slice none 0 0] 28)).heap.size = w.heap.size + 1 := by simp
  obtain ⟨wl, hwl⟩ : ∃ wl, w.alloc (.cells #[.slice none 0 0] 28) = wl := ⟨_, rfl⟩
  rw [hwl] at hB0 hS hsz ⊢
  clear hwl
  have hseq : SeqStopsK Fence.wide 1 Tryz.prog 85 #[.pointer (some ⟨Bn, 0, none⟩)] (fun x => #[.int .i64 x]) (Below w.heap.size) (fun ys => ys = zs) (fun pre => pre <+: zs) zs.length wl := by
    intro lp J Jx W hW hJ _ hY h0
    refine values1_in lp Bn c A zs (by omega) J Jx (Below w.heap.size) W (fun W => Below.refl _ _) (fun _ _ _ h k => h.trans k) (fun W' hk => ?_) hY h0
    have hbW := hB0.trans ((hW.mono (by omega)).trans hk)
    exact ⟨(hr.below hbW).more hbW.size, (hb.below hbW hb.lt).cell 0⟩
  refine wpIn_rangeFunc_ownH rfl (by decide) (gf := 85) (lb := #[.pointer (some ⟨Bn, 0, none⟩)]) rfl trivial (enters_of Tryz.func85 (by kernel_rfl) rfl)
    hseq (fun h k => h.trans k) (fun W l o o' hl h hc hw => belowK_b (w := w) (Nat.le_refl _) W l o o' (by omega) h hc hw) (Below.refl _ _) (fun _ => rfl)
    (fun pre W => (∃ v, Blk W w.heap.size 28 #[v] ∧ LO intE 3 W w.heap.size v pre) ∧ Below w.heap.size w W)
    (fun _ _ _ => False)
    (OwnFrom.and (fun s W1 W2 row hs hg hr => by obtain ⟨v, a1, a3⟩ := hs; exact ⟨v, blk_nc a1 hg fun r e => (hr r e).2, a3.nc hg fun r e => (hr r e).2⟩) (ownFrom_below (Nat.le_refl _) (by omega)))
    (fun _ _ _ _ _ h _ _ => h)
    ⟨⟨_, hS, LO.nil_ _ _⟩, hB0⟩
    (fun x a' _W => a' = { tmps := #[.slice none 0 0, .func (.func 85) #[] #[.pointer (some ⟨Bn, 0, none⟩)], .pointer (some ⟨w.heap.size, 0, none⟩), undef, .slice none 0 0, .int .i64 x, .func (.func 85) #[] #[.pointer (some ⟨Bn, 0, none⟩)], .int .i64 x, undef, undef, undef, undef, undef], defers := [] })
    (fun _ _ _ _ _ _ hs _ _ => hs)
    ?assign ?body ?done ?stop
  case assign =>
    rintro lp pre x W K ⟨⟨v, a1, a3⟩, hB⟩ hK
    gi_wp2
    exact hK _ _ (KeepsFrom.refl _ _) (Below.refl _ _) ⟨⟨v, a1, a3⟩, hB⟩ rfl
  case body =>
    rintro lp pre x a' W hlp _ ⟨⟨v, a1, a3⟩, hB⟩ rfl hlt
    have hl1 := a1.lt
    have c1 := a1.cell 0
    obtain ⟨Av, cv, rfl⟩ := a3.form
    have hraw := a3.raw rfl (s := 1) rfl
    gi_wp2_with (gi_at_builtin; refine wpListIn_app1 rfl (.tmp 8) (.tmp 10) 28 rfl eiInt Tryz.underlying28 rfl (by decide) rfl hraw rfl (by simp) rfl (by simp [Value.oneCell']) (by unfold maxLen; omega) (by omega) hB.size ?_; intro v' w1 hown' hgrow hbel; obtain ⟨A6, c6, rfl⟩ := own_form hown'; have a1' := a1.grown hgrow (Ne.symm (own_blk_ne hraw a1 (by decide))); have d1 := a1'.cell 0; have f1 := a1'.frozen 0; have l1 := a1'.lt)
    refine ⟨KeepsOthers.from ((KeepsOthers.of_grownBy hgrow fun j o hj ho => ?_).trans (KeepsOthers.setCell _ _ _)) _, hbel.setCell (p := ⟨w.heap.size, 0, none⟩) (Nat.le_refl _) _, ⟨_, a1'.set_ 0 _, ?_⟩, (hB.trans hbel).setCell (p := ⟨w.heap.size, 0, none⟩) (Nat.le_refl _) _⟩
    · obtain ⟨cs, hcs⟩ := own_obj hraw hj
      rw [hcs] at ho; cases ho; rfl
    · exact LO.set_ (LO.snoc (E := intE) rfl rfl rfl hown') a1' (by decide)
  case done =>
    rintro D ys W hD rfl ⟨⟨v, a1, a3⟩, hB⟩ hK
    have hl1 := a1.lt
    have c1 := a1.cell 0
    obtain ⟨Av, cv, rfl⟩ := a3.form
    gi_wp2
    have a3n := a3.nc (grownBy_putObj' _ D (.deferred none)) (fun r e => by cases e; exact ⟨_, hK, rfl⟩)
    refine ⟨by simp, .inl ⟨_, _, rfl, run_takeDeferred hK, ?_⟩⟩
    refine ⟨.slice Av ys.length cv, ?_, _, rfl, a3n.lower ?_, hB.trans (belowK_b (w := w) (Nat.le_refl _) W D _ _ (by omega) hK rfl rfl)⟩
    · simp [results, Tryz.f124, go_sem]
    · exact Nat.le_refl _
  case stop =>
    rintro D k pre W hD hpre ⟨⟩
end Go.Proofs.YtlgbcogdogpihaaGreatDoor
