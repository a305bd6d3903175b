/- The walks of alloc's Alloc, Drop, Put. -/
import Derived.Test.YtlgbcogdogpihaaGreatDoorQTxn1
namespace Go.Proofs.YtlgbcogdogpihaaGreatDoor
open Go.RowKit Go.Shelf
/-- nothing but blocks t, m has turned -/
structure Touch (t m : Nat) (w w' : World) : Prop where
  os : w'.os = w.os
  tape : w'.tape = w.tape
  output : w'.output = w.output
  size : w.heap.size ≤ w'.heap.size
  block : ∀ k, k < w.heap.size → k ≠ t → k ≠ m → w'.heap[k]? = w.heap[k]?
section
variable {t m : Nat} {w w' w'' : World}
theorem Touch.of_below (h : Below w.heap.size w w') : Touch t m w w' := ⟨h.os, h.tape, h.output, h.size, fun k hk _ _ => h.block k hk⟩
theorem Touch.trans (h : Touch t m w w') (h' : Touch t m w' w'') : Touch t m w w'' :=
  ⟨h'.os.trans h.os, h'.tape.trans h.tape, h'.output.trans h.output, Nat.le_trans h.size h'.size, fun k hk a b => (h'.block k (Nat.lt_of_lt_of_le hk h.size) a b).trans (h.block k hk a b)⟩
theorem Touch.of_grown {r : Nat} (h : w.grownBy w' (some r)) (hr : r = t ∨ r = m) : Touch t m w w' :=
  ⟨h.os, h.tape, h.output, h.size, fun k hk a b => h.block k hk (fun e => by injection e with e; omega)⟩
theorem Touch.below {B : Nat} (h : Touch t m w w') (ht : B ≤ t) (hm : B ≤ m) (hB : B ≤ w.heap.size) : Below B w w' := ⟨h.os, h.tape, h.output, h.size, fun k hk => h.block k (by omega) (by omega) (by omega)⟩
end
section
variable {w w' : World} {t m f n k : Nat} {free : List Run} {pages : Int} {D : DataW Value}
theorem Txn.setFree (h : Txn w t m f n free pages k D) {v : Value} {fr : List Run} (hv : Own w 0 v fr) : Txn (w.setCell ⟨t, 1, none⟩ v) t m f n fr pages k D := by
  obtain ⟨h1, ⟨u, h2, h3⟩, h4⟩ := h
  have hg : w.grownBy (w.setCell ⟨t, 1, none⟩ v) (some t) := only_setCell (World.grownBy.refl w _) (.inl rfl) _
  have hb : ∀ ty, ty ≠ 117 → ∀ r, some t = some r → ∃ o, w.heap[r]? = some o ∧ ∀ cs, o ≠ .cells cs ty (0, 0) := fun ty hne r e => by
    cases e; exact ⟨_, h2, fun cs e => by injection e with _ e; exact hne e.symm⟩
  have hne : t ≠ m := fun e => by obtain ⟨es, c, hm, _⟩ := h4; subst e; unfold Blk at h2; rw [h2] at hm; cases hm
  refine ⟨h1.keep hg (fun r e => ?_), ⟨v, h2.set_ 1 v, hv.keep hg (hb _ (by decide))⟩, h4.setCell (fun e => hne e.symm) _⟩
  cases e
  exact ⟨_, h2, (fun cs e => by injection e with _ e; cases e), (fun cs e => by injection e with _ e; cases e)⟩
theorem Txn.setPages (h : Txn w t m f n free pages k D) (p : Int) : Txn (w.setCell ⟨t, 2, none⟩ (.int .i64 p)) t m f n free p k D := by
  obtain ⟨h1, ⟨u, h2, h3⟩, h4⟩ := h
  have hg : w.grownBy (w.setCell ⟨t, 2, none⟩ (.int .i64 p)) (some t) := only_setCell (World.grownBy.refl w _) (.inl rfl) _
  have hne : t ≠ m := fun e => by obtain ⟨es, c, hm, _⟩ := h4; subst e; unfold Blk at h2; rw [h2] at hm; cases hm
  refine ⟨h1.keep hg (fun r e => ?_), ⟨u, h2.set_ 2 _, h3.keep hg (fun r e => ?_)⟩, h4.setCell (fun e => hne e.symm) _⟩
  · cases e
    exact ⟨_, h2, (fun cs e => by injection e with _ e; cases e), (fun cs e => by injection e with _ e; cases e)⟩
  · cases e
    exact ⟨_, h2, fun cs e => by injection e with _ e; cases e⟩
theorem Txn.turn (h : Txn w t m f n free pages k D) {k' : Nat} {D' : DataW Value} (hg : w.grownBy w' (some m)) (hm : w'.ownsMap Tryz.prog 3 heldR m k' D') : Txn w' t m f n free pages k' D' := by
  obtain ⟨h1, ⟨u, h2, h3⟩, h4⟩ := h
  obtain ⟨es, c, hm0, _⟩ := h4
  refine ⟨h1.keep hg (fun r e => ?_), ⟨u, h2.keep hg (fun r e => ?_), h3.keep hg (fun r e => ?_)⟩, hm⟩
  all_goals cases e
  · exact ⟨_, hm0, (fun cs e => by cases e), (fun cs e => by cases e)⟩
  · exact ⟨_, hm0, fun cs e => by cases e⟩
  · exact ⟨_, hm0, fun cs e => by cases e⟩
theorem Touch.set_ {w : World} {t m i : Nat} (v : Value) : Touch t m w (w.setCell ⟨t, i, none⟩ v) := Touch.of_grown (only_setCell (World.grownBy.refl w (some t)) (.inl rfl) _) (.inl rfl)
theorem wfI {x : Int} (h : -9223372036854775808 ≤ x ∧ x ≤ 9223372036854775807) : (Lit.int .i64 x).wf = true := WalkArith.wf_i64 h
/-- a store into the map, laid ahead of the walk -/
theorem Txn.store (h : Txn w t m f n free pages k D) (hk : k < maxLen) {id : Int} (hid : (Lit.int .i64 id).wf = true) (b : Bool) (q : Int) (s : ByteArray) :
    ∃ w', (Instr.mapUpdate 115 (.map (some m)) (.int .i64 id) (.agg #[.bool b, .int .u8 q, .string s])).run Tryz.prog w = .ok () w' ∧ Txn w' t m f n free pages (k + 1) (D.put (.int .i64 id) (.held (content b q s))) ∧ w.grownBy w' (some m) := by
  obtain ⟨w', h1, h2, h3⟩ := h.map.store keyedI Tryz.underlying115 hk (keyI hid) (heldR_mk b q s)
  exact ⟨w', h1, h.turn h3.grown h2, h3.grown⟩
end
def allocV (free : List Run) (pages room : Int) : Option (Int × List Run × Int) :=
  match firstR free with
  | some id => some (id, Rp.minus free [(id, id)], pages)
  | none => if room ≤ pages then none else some (pages, free, pages + 1)
def AllocEnd (o : Option (Int × List Run × Int)) (t m f n : Nat) (free : List Run) (pages : Int) (k : Nat) (D : DataW Value) (w : World) (e : Ending) (w' : World) : Prop :=
  Touch t m w w' ∧ match o with
  | none => e = .returned (.tuple #[.int .i64 0, .int .i64 2]) ∧ Txn w' t m f n free pages k D
  | some (id, fr, p) => e = .returned (.tuple #[.int .i64 id, .int .i64 0]) ∧ Txn w' t m f n fr p (k + 1) (D.put (.int .i64 id) (.held (content false 0 ⟨#[]⟩)))
theorem AllocEnd.some_ {o : Option (Int × List Run × Int)} {t m f n k : Nat} {free fr : List Run} {pages p id : Int} {D : DataW Value} {w w' : World} (ho : o = some (id, fr, p)) (h : Touch t m w w') (h' : Txn w' t m f n fr p (k + 1) (D.put (.int .i64 id) (.held (content false 0 ⟨#[]⟩)))) :
    AllocEnd o t m f n free pages k D w (.returned (.tuple #[.int .i64 id, .int .i64 0])) w' := by subst ho; exact ⟨h, rfl, h'⟩
theorem AllocEnd.none_ {o : Option (Int × List Run × Int)} {t m f n k : Nat} {free : List Run} {pages : Int} {D : DataW Value} {w w' : World} (ho : o = none) (h : Touch t m w w') (h' : Txn w' t m f n free pages k D) :
    AllocEnd o t m f n free pages k D w (.returned (.tuple #[.int .i64 0, .int .i64 2])) w' := by subst ho; exact ⟨h, rfl, h'⟩
theorem mem_evs {l : List Run} {x : Int} : x ∈ evs l ↔ ∃ r ∈ l, r.1 ≤ x ∧ x ≤ r.2 := by
  unfold evs
  rw [List.mem_flatMap]
  constructor
  · rintro ⟨r, hr, hx⟩
    refine ⟨r, hr, ?_⟩
    unfold runL cnt at hx
    obtain ⟨i, hi, rfl⟩ := List.mem_map.1 hx
    rw [List.mem_range] at hi
    omega
  · rintro ⟨r, hr, h1, h2⟩
    refine ⟨r, hr, List.mem_map.2 ⟨(x - r.1).toNat, ?_, by omega⟩⟩
    rw [List.mem_range]; unfold cnt; omega
theorem firstR_in {l : List Run} {x : Int} (h : firstR l = some x) : 0 ≤ x ∧ x ≤ 4294967295 := by
  unfold firstR at h
  have hx := List.mem_of_head? h
  obtain ⟨r, hr, h1, h2⟩ := mem_evs.1 hx
  have := canon_run _ 0 (Int.le_refl _) (Rp.norm_ok l).1 r hr
  omega
set_option maxRecDepth 100000 in
set_option maxHeartbeats 800000 in
theorem talloc_some (t m f n k : Nat) (free : List Run) (pages : Int) (D : DataW Value) (id : Int) (hid : firstR free = some id) (hl : free.length ≤ 80000) (hk : k < maxLen) (w : World) (h : Txn w t m f n free pages k D) (o : Option (Int × List Run × Int)) (ho : o = some (id, Rp.minus free [(id, id)], pages)) :
    Calls Tryz.prog 29 #[.pointer (some ⟨t, 0, none⟩)] w (AllocEnd o t m f n free pages k D w) := by
  have hin := firstR_in hid
  have hT := h
  obtain ⟨_, ⟨v, h2, h3⟩, _⟩ := h
  obtain ⟨A, c, rfl⟩ := h3.form
  have hlt := h2.lt
  have hc := h2.cell 1
  have hF := hid_calls (first_any A c free (by omega) w h3.rs)
  rw [hid] at hF
  have hRm := fun W h => hid_calls (remove_any A c free id W h (by omega))
  have HO := Lib.hid ho
  clear ho
  generalize Rp.minus free [(id, id)] = fr at *
  go_enter Tryz.func29, Tryz.ntmps29
  go_wp2_with fail
  refine hF.out.mono ?_
  rintro e w1 ⟨rfl, b1⟩
  have hT1 := hT.below b1
  have h21 := h2.below b1 hlt
  have h31 := h3.keep (only_of_below b1 none) (fun r e => by cases e)
  have hlt1 := h21.lt
  have hc1 := h21.cell 1
  have hc3 := h21.cell 3
  go_wp2_with fail
  refine (hRm w1 h31.rs).out.mono ?_
  intro e w2 he
  obtain ⟨A2, c2, rfl, ho2, r2, b2⟩ := he.open_
  clear he hRm hF
  have ho0 : Own w2 0 (.slice A2 fr.length c2) fr := ho2.lower (Nat.zero_le _)
  have hT2 := (hT1.below b2).setFree ho0
  have h22 := h21.below b2 hlt1
  have hlt2 := h22.lt
  have hcc1 := h22.cell 1
  have hcf := h22.frozen 1
  have h23 := h22.set_ 1 (.slice A2 fr.length c2)
  have hlt3 := h23.lt
  have hcc3 := h23.cell 3
  obtain ⟨w4, hrun, hT4, hg4⟩ := hT2.store hk (wfI (x := id) (by omega)) false 0 ⟨#[]⟩
  have hTo : Touch t m w w4 := ((Touch.of_below b1).trans ((Touch.of_below b2).trans (Touch.set_ _))).trans (Touch.of_grown hg4 (.inr rfl))
  clear hT hT1 hT2 h2 h3 h21 h31 ho0 ho2 r2 b1 b2 hg4
  go_wp2
  go_ret2
  exact AllocEnd.some_ HO.out hTo hT4
set_option maxRecDepth 100000 in
set_option maxHeartbeats 800000 in
theorem talloc_none (t m f n k : Nat) (free : List Run) (pages : Int) (D : DataW Value) (hid : firstR free = none) (hl : free.length ≤ 80000) (hk : k < maxLen) (hp : 0 ≤ pages ∧ pages ≤ 1000000) (w : World) (h : Txn w t m f n free pages k D) (o : Option (Int × List Run × Int)) (ho : o = if max (n : Int) 2 ≤ pages then none else some (pages, free, pages + 1)) :
    Calls Tryz.prog 29 #[.pointer (some ⟨t, 0, none⟩)] w (AllocEnd o t m f n free pages k D w) := by
  have hT := h
  obtain ⟨hf, ⟨v, h2, h3⟩, _⟩ := h
  obtain ⟨A, c, rfl⟩ := h3.form
  have hlt := h2.lt
  have hc := h2.cell 1
  have hF := hid_calls (first_any A c free (by omega) w h3.rs)
  rw [hid] at hF
  have HO := Lib.hid ho
  clear ho
  go_enter Tryz.func29, Tryz.ntmps29
  go_wp2_with fail
  refine hF.out.mono ?_
  rintro e w1 ⟨rfl, b1⟩
  have hT1 := hT.below b1
  have hf1 := hf.keep (only_of_below b1 none) (fun r e => by cases e)
  have h21 := h2.below b1 hlt
  have hlt1 := h21.lt
  have hc0 := h21.cell 0
  have hc2 := h21.cell 2
  have hc3 := h21.cell 3
  have hR := fun W h => room_any f n W h
  by_cases hfull : max (n : Int) 2 ≤ pages
  · have ho : o = none := by rw [HO.out, if_pos hfull]
    clear HO
    go_wp2_with fail
    go_quiet ((go_at_call 64; refine Calls.quiet_of_same (hR _ hf1)))
    have bq := below_drewN b1 nq
    generalize w1.drewN nq = W1 at *
    have hTq := hT.below bq
    go_wp2
    go_ret2
    exact AllocEnd.none_ ho (Touch.of_below bq) hTq
  · have ho : o = some (pages, free, pages + 1) := by rw [HO.out, if_neg hfull]
    clear HO
    go_wp2_with fail
    go_quiet ((go_at_call 64; refine Calls.quiet_of_same (hR _ hf1)))
    have bq := below_drewN b1 nq
    generalize w1.drewN nq = W1 at *
    have hTq := hT.below bq
    have h2q := h2.below bq hlt
    have hcf := h2q.frozen 2
    have hltq := h2q.lt
    have hcq2 := h2q.cell 2
    have hT2 := hTq.setPages (pages + 1)
    have h22 := h2q.set_ 2 (.int .i64 (pages + 1))
    have hlt2 := h22.lt
    have hcc3 := h22.cell 3
    obtain ⟨w4, hrun, hT4, hg4⟩ := hT2.store hk (wfI (x := pages) (by omega)) false 0 ⟨#[]⟩
    have hTo : Touch t m w w4 := ((Touch.of_below bq).trans (Touch.set_ _)).trans (Touch.of_grown hg4 (.inr rfl))
    clear hT hTq hT1 hT2 h2 h3 h21 hg4
    go_wp2
    go_ret2
    exact AllocEnd.some_ ho hTo hT4
theorem talloc_any (t m f n k : Nat) (free : List Run) (pages : Int) (D : DataW Value) (hl : free.length ≤ 80000) (hk : k < maxLen) (hp : 0 ≤ pages ∧ pages ≤ 1000000) (w : World) (h : Txn w t m f n free pages k D) :
    Calls Tryz.prog 29 #[.pointer (some ⟨t, 0, none⟩)] w (AllocEnd (allocV free pages (max (n : Int) 2)) t m f n free pages k D w) := by
  cases hid : firstR free with
  | none => exact talloc_none t m f n k free pages D hid hl hk hp w h _ (by unfold allocV; rw [hid])
  | some id => exact talloc_some t m f n k free pages D id hid hl hk w h _ (by unfold allocV; rw [hid])
end Go.Proofs.YtlgbcogdogpihaaGreatDoor
