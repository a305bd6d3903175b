/- The walk of rootstocklaw10.AllocLeast. -/
import Derived.Test.YtknlcfiphkbbaaaWorks10
import Derived.Test.YtknlcfiphkbbaaaTaken
import Derived.Test.YtknlcfiphkbbaaaOpenInts
import Derived.Deep.RegionHeld3
namespace Go.Proofs.Ytknlcfiphkbbaaa
open Go.RowKit Go.Shelf
/-- what AllocLeast's rounds keep -/
structure LeastInv (wr : World) (t m f n : Nat) (i : Nat) (fr : List Run) (p : Int) (k : Nat) (D : DataW Value) : Prop where
  txn : Txn wr t m f n fr p k D
  len : fr.length ≤ 200 + 10 * i
  pg : 2 ≤ p ∧ p ≤ 20000
  k2 : k ≤ 2 * i
  keys : ∀ x, Maps.has D (.int .i64 x) = true → 0 ≤ x ∧ x ≤ 4294967295
set_option maxRecDepth 100000 in
set_option maxHeartbeats 1000000 in
theorem least_big (s : Int) (A A2 : Option Addr) (c c2 n n2 : Nat) (pages : Int) (w : World) (hbig : ¬ (s ≤ 30 ∧ n ≤ 100 ∧ n2 ≤ 100)) :
    Calls Try.prog 4 #[.int .i64 s, .slice A n c, .int .i64 pages, .slice A2 n2 c2] w fun e w' => e = .returned (.bool true) ∧ Below w.heap.size w w' := by
  have hW := hid_calls (works_any taken_said w)
  go_enter Try.func4, Try.ntmps4
  by_cases h1 : 30 < s
  · have hd1 : decide (30 < s) = true := by simp [h1]
    go_wp2_with fail
    refine hW.out.mono ?_
    rintro e w1 ⟨rfl, b1⟩
    go_wp2
    go_ret
    exact ⟨rfl, b1⟩
  · have hd1 : decide (30 < s) = false := by simp [h1]
    by_cases h2 : 100 < n
    · have hd2 : decide (100 < (n : Int)) = true := by simp; omega
      go_wp2_with fail
      refine hW.out.mono ?_
      rintro e w1 ⟨rfl, b1⟩
      go_wp2
      go_ret
      exact ⟨rfl, b1⟩
    · have hd2 : decide (100 < (n : Int)) = false := by simp; omega
      have hd3 : decide (100 < (n2 : Int)) = true := by simp; omega
      go_wp2_with fail
      refine hW.out.mono ?_
      rintro e w1 ⟨rfl, b1⟩
      go_wp2
      go_ret
      exact ⟨rfl, b1⟩
theorem least_step (t m f n k : Nat) (fr : List Run) (p : Int) (D : DataW Value) (hm : Maps.IsMap D) (hn : n ≤ 16384) (hl : fr.length ≤ 80000) (hk : k < maxLen) (hp : 2 ≤ p ∧ p ≤ 20000) (hkeys : ∀ x, Maps.has D (.int .i64 x) = true → 0 ≤ x ∧ x ≤ 4294967295) :
    ∃ (x1 : Int) (ok : Bool) (id E : Int) (fr1 : List Run) (p1 : Int) (k1 : Nat) (D1 : DataW Value),
      (∀ (w : World) (A : Option Addr) (c : Nat), RS w w.heap.size A fr → Calls Try.prog 19 #[.slice A fr.length c] w fun e w' => e = .returned (.tuple #[.int .i64 x1, .bool ok]) ∧ Below w.heap.size w w') ∧
      (∀ w : World, Txn w t m f n fr p k D → Calls Try.prog 21 #[.pointer (some ⟨t, 0, none⟩)] w fun e w' => e = .returned (.tuple #[.int .i64 id, .int .i64 E]) ∧ Touch t m w w' ∧ Txn w' t m f n fr1 p1 k1 D1) ∧
      (fr1.length ≤ fr.length + 5 ∧ (2 ≤ p1 ∧ p1 ≤ 20000) ∧ k1 ≤ k + 1 ∧ ∀ x, Maps.has D1 (.int .i64 x) = true → 0 ≤ x ∧ x ≤ 4294967295) ∧
      ((ok = true ∧ id = x1 ∧ E = 0 ∧ p1 = p) ∨ (ok = false ∧ E = 0 ∧ id = p ∧ p1 = p + 1) ∨ (ok = false ∧ E = 2)) := by
  have hF := fun (w : World) (A : Option Addr) (c : Nat) (h : RS w w.heap.size A fr) => first_any A c fr (by omega) w h
  have hA := fun (w : World) (h : Txn w t m f n fr p k D) => talloc_any t m f n k fr p D hl hk (by omega) w h
  cases hfi : firstR fr with
  | some id =>
    have hin := firstR_in hfi
    have ha : allocV fr p (max (n : Int) 2) = some (id, Rp.minus fr [(id, id)], p) := by unfold allocV; rw [hfi]
    have hml := minus_len fr [(id, id)]
    rw [hfi] at hF
    rw [ha] at hA
    refine ⟨id, true, id, 0, _, p, k + 1, D.put (.int .i64 id) (.held (content false 0 ⟨#[]⟩)), fun w A c h => hF w A c h, fun w h => (hA w h).mono ?_, ⟨by simpa using hml, hp, by omega, fun x hx => ?_⟩, .inl ⟨rfl, rfl, rfl, rfl⟩⟩
    · rintro e w' ⟨h1, h2, h3⟩
      exact ⟨h2, h1, h3⟩
    · rw [has_putI hm] at hx
      by_cases e : x = id
      · subst e; exact hin
      · simp [e] at hx; exact hkeys x hx
  | none =>
    rw [hfi] at hF
    by_cases hfull : max (n : Int) 2 ≤ p
    · have ha : allocV fr p (max (n : Int) 2) = none := by unfold allocV; rw [hfi]; simp only; rw [if_pos hfull]
      rw [ha] at hA
      refine ⟨0, false, 0, 2, fr, p, k, D, fun w A c h => hF w A c h, fun w h => (hA w h).mono ?_, ⟨by omega, hp, by omega, hkeys⟩, .inr (.inr ⟨rfl, rfl⟩)⟩
      rintro e w' ⟨h1, h2, h3⟩
      exact ⟨h2, h1, h3⟩
    · have ha : allocV fr p (max (n : Int) 2) = some (p, fr, p + 1) := by unfold allocV; rw [hfi]; simp only; rw [if_neg hfull]
      rw [ha] at hA
      refine ⟨0, false, p, 0, fr, p + 1, k + 1, D.put (.int .i64 p) (.held (content false 0 ⟨#[]⟩)), fun w A c h => hF w A c h, fun w h => (hA w h).mono ?_, ⟨by omega, by omega, by omega, fun x hx => ?_⟩, .inr (.inl ⟨rfl, rfl, rfl, rfl⟩)⟩
      · rintro e w' ⟨h1, h2, h3⟩
        exact ⟨h2, h1, h3⟩
      · rw [has_putI hm] at hx
        by_cases e : x = p
        · subst e; omega
        · simp [e] at hx; exact hkeys x hx
theorem drop_facts (fr : List Run) (D : DataW Value) (x : Int) (hkeys : ∀ x, Maps.has D (.int .i64 x) = true → 0 ≤ x ∧ x ≤ 4294967295) :
    (dropF fr D x).length ≤ fr.length + 1 ∧ (∀ y, Maps.has (dropD D x) (.int .i64 y) = true → 0 ≤ y ∧ y ≤ 4294967295) ∧ Maps.has (dropD D x) (.int .i64 x) = false ∧ (Maps.has D (.int .i64 x) = true → Rp.has (dropF fr D x) x = true) := by
  cases hh : Maps.has D (.int .i64 x) with
  | false =>
    have e1 : dropF fr D x = fr := by unfold dropF; rw [hh]; rfl
    have e2 : dropD D x = D := by unfold dropD; rw [hh]; rfl
    rw [e1, e2]
    exact ⟨by omega, hkeys, hh, fun e => by cases e⟩
  | true =>
    have e1 : dropF fr D x = Rp.union fr [(x, x)] := by unfold dropF; rw [hh]; rfl
    have e2 : dropD D x = D.del (.int .i64 x) := by unfold dropD; rw [hh]; rfl
    have hin := hkeys x hh
    rw [e1, e2]
    refine ⟨by simpa using union_len fr [(x, x)], fun y hy => ?_, by rw [has_delI]; simp, fun _ => ?_⟩
    · rw [has_delI] at hy
      simp at hy
      exact hkeys y hy.2
    · rw [Rp.has_iff]
      refine ⟨hin.1, by unfold Rp.Most; exact hin.2, ?_⟩
      rw [(Rp.union_ok fr [(x, x)]).2]
      exact ⟨.inr ((Rp.mem_one x x).2 rfl), hin.1, by unfold Rp.Most; exact hin.2⟩
section
variable {p : Addr} {x : Int} {w0 W W' : World} {t m f n k : Nat} {fr : List Run} {pg : Int} {D : DataW Value}
theorem ls_keep (hp : p.block < w0.heap.size) (h : W.cell? p = some (.int .i64 x) ∧ Txn W t m f n fr pg k D ∧ Below w0.heap.size w0 W) (b : Below W.heap.size W W') : W'.cell? p = some (.int .i64 x) ∧ Txn W' t m f n fr pg k D ∧ Below w0.heap.size w0 W' :=
  ⟨(b.cell (p := p) (Nat.lt_of_lt_of_le hp h.2.2.size)).trans h.1, h.2.1.below b, h.2.2.trans (b.mono h.2.2.size)⟩
theorem ls_fin (h : W.cell? p = some (.int .i64 x) ∧ Txn W t m f n fr pg k D ∧ Below w0.heap.size w0 W) : Txn W t m f n fr pg k D ∧ Below w0.heap.size w0 W := h.2
theorem ls_start (h1 : w0.cell? p = some (.int .i64 x)) (h2 : Txn w0 t m f n fr pg k D) : w0.drew.cell? p = some (.int .i64 x) ∧ Txn w0.drew t m f n fr pg k D ∧ Below w0.heap.size w0 w0.drew :=
  ⟨h1, h2.below (Below.refl _ w0).drew, (Below.refl _ w0).drew⟩
end
set_option maxRecDepth 100000 in
set_option maxHeartbeats 40000000 in
theorem least_small (s : Int) (A A2 : Option Addr) (c c2 : Nat) (l : List Run) (dr : List Int) (pages : Int) (w : World) (hr : RS w w.heap.size A l) (hdr : RI w w.heap.size A2 dr) (hwf : ∀ x ∈ dr, (Lit.int .i64 x).wf = true) (h1 : s ≤ 30) (h2 : l.length ≤ 100) (h3 : dr.length ≤ 100) :
    Calls Try.prog 4 #[.int .i64 s, .slice A l.length c, .int .i64 pages, .slice A2 dr.length c2] w fun e w' => e = .returned (.bool true) ∧ Below w.heap.size w w' := by
  have hW := hid_calls (works_any taken_said w)
  have hd1 : decide (30 < s) = false := by simp; omega
  have hd2 : decide (100 < (l.length : Int)) = false := by simp; omega
  have hd3 : decide (100 < (dr.length : Int)) = false := by simp; omega
  go_enter Try.func4, Try.ntmps4
  go_wp2_with fail
  refine hW.out.mono ?_
  rintro e w1 ⟨rfl, b1⟩
  go_wp2_with fail
  refine (dnew_of s _).mono ?_
  rintro e w2 ⟨d, rfl, hdk, b2⟩
  have b12 := b1.trans (b2.mono b1.size)
  clear b1 b2 hW
  go_wp2_with fail
  refine (fnew_any d _ _ hdk).mono ?_
  rintro e w3 ⟨f, rfl, hf, b3⟩
  have b13 := b12.trans (b3.mono b12.size)
  clear b12 b3 hdk
  go_wp2_with fail
  have hn : diskN s ≤ 30 := by unfold diskN; omega
  generalize diskN s = n at *
  refine (tnew_any f n A c l pages (by omega) _ hf ((hr.below b13).more b13.size) (by omega)).mono ?_
  rintro e w4 ⟨t, m, rfl, htm, hT, b4⟩
  have b14 := b13.trans (b4.mono b13.size)
  have htm2 : w.heap.size ≤ t ∧ w.heap.size ≤ m := by have := b13.size; omega
  have hml := meet_len l [(2, pagesN pages n - 1)]
  have hpg : 2 ≤ pagesN pages n ∧ pagesN pages n ≤ 20000 := by unfold pagesN; omega
  have hI : LeastInv w4 t m f n 0 (Rp.meet l [(2, pagesN pages n - 1)]) (pagesN pages n) 0 (.map []) := ⟨hT, by simp at hml; omega, hpg, by omega, fun x hx => by rw [has_nilI] at hx; cases hx⟩
  clear hml hpg hT b13 b4 htm hf hr
  generalize Rp.meet l [(2, pagesN pages n - 1)] = fr0 at *
  generalize pagesN pages n = p0 at *
  go_wp2
  go_loopw [11] (fun i wr => ∃ (q : Nat) (fr : List Run) (p : Int) (k : Nat) (D : DataW Value), q ≤ dr.length ∧ i = .int .i64 q ∧ LeastInv wr t m f n q fr p k D ∧ Below w.heap.size w wr) (fun i _ => dr.length - (intOf i).toNat)
  case atStart => exact ⟨0, fr0, p0, 0, _, by omega, rfl, hI, b14⟩
  case round =>
    obtain ⟨q, fr, p, k, D, hq, rfl, hI, hbe⟩ := hrel
    by_cases hlt : q < dr.length
    · obtain ⟨bq, oq, rfl, hbq, hcq⟩ := hdr.at_ hlt
      have hwq := hwf _ (List.getElem_mem hlt)
      generalize dr[q] = x at *
      obtain ⟨hT, hl, hp, hk, hkeys⟩ := hI
      obtain ⟨x1, ok, id, E, fr1, p1, k1, D1, hF, hA, ⟨hl1, hp1, hk1, hkeys1⟩, hd⟩ := least_step t m f n k fr p D hT.map.isMap (by omega) (by omega) (by unfold maxLen; omega) hp hkeys
      have hF := fun w A c h => hid_calls (hF w A c h)
      have hA := fun w h => hid_calls (hA w h)
      go_wp2_with fail
      refine (tpages_any t m f n _ _ _ _ _ hT).mono ?_
      rintro e w' ⟨rfl, hw⟩; replace hw := hw.symm; subst hw
      go_wp2_with fail
      refine (tfree_any t m f n _ _ _ _ _ hT (by omega)).mono ?_
      intro e w5 he
      obtain ⟨A5, c5, rfl, _, r5, b5⟩ := he.open_
      clear he
      have hT5 := hT.below b5
      clear hT
      have hbe5 := hbe.trans (b5.mono hbe.size)
      go_wp2_with fail
      refine (hF _ _ _ r5).out.mono ?_
      rintro e w6 ⟨rfl, b6⟩
      have hT6 := hT5.below b6
      clear hT5
      have hbe6 := hbe5.trans (b6.mono hbe5.size)
      clear b5 b6 r5 hF hbe hbe5
      go_wp2_with fail
      refine (hA _ hT6).out.mono ?_
      rintro e w7 ⟨rfl, to7, hT7⟩
      clear hT6
      have hbe7 := hbe6.trans (to7.below htm2.1 htm2.2 hbe6.size)
      clear to7 hbe6 hA
      obtain ⟨hlf, hkf, hnf, hyf⟩ := drop_facts fr1 D1 x hkeys1
      have hc7 : w7.cell? ⟨bq, oq + q, none⟩ = some (.int .i64 x) := (hbe7.cell (p := ⟨bq, oq + q, none⟩) hbq).trans hcq
      have hlt7 : bq < w7.heap.size := Nat.lt_of_lt_of_le hbq hbe7.size
      have HDr := fun w (h : Txn w t m f n fr1 p1 k1 D1) => hid_calls (tdrop_any t m f n k1 fr1 p1 D1 x hwq (by omega) w h)
      generalize hdf : dropF fr1 D1 x = fr2 at *
      generalize hdd : dropD D1 x = D2 at *
      clear hdf hdd
      rcases hd with ⟨rfl, rfl, rfl, rfl⟩ | ⟨rfl, rfl, rfl, rfl⟩ | ⟨rfl, rfl⟩
      · go_wp2_with fail
        refine (tpages_any t m f n _ _ _ _ _ hT7).mono ?_
        rintro e w' ⟨rfl, hw⟩; replace hw := hw.symm; subst hw
        go_wp2_with fail
        have hc7 : w7.cell? ⟨bq, oq + q, none⟩ = some (.int .i64 x) := (hbe7.cell (p := ⟨bq, oq + q, none⟩) hbq).trans hcq
        have hlt7 : bq < w7.heap.size := Nat.lt_of_lt_of_le hbq hbe7.size
        refine (tfresh_any t m f n _ _ _ _ x hwq _ hT7).mono ?_
        rintro e w8 ⟨rfl, b8⟩
        have hT8 := hT7.below b8
        clear hT7
        have hbe8 := hbe7.trans (b8.mono hbe7.size)
        have hc8 : w8.cell? ⟨bq, oq + q, none⟩ = some (.int .i64 x) := (hbe8.cell (p := ⟨bq, oq + q, none⟩) hbq).trans hcq
        have hlt8 : bq < w8.heap.size := Nat.lt_of_lt_of_le hbq hbe8.size
        generalize Maps.has D1 (.int .i64 x) = is at *
        clear b8 hbe7 hc7 hlt7
        go_wp2_with fail
        refine (HDr w8 hT8).out.mono ?_
        rintro e w9 ⟨rfl, to9, hT9⟩
        clear hT8
        have hbe9 := hbe8.trans (to9.below htm2.1 htm2.2 hbe8.size)
        have hc9 : w9.cell? ⟨bq, oq + q, none⟩ = some (.int .i64 x) := (hbe9.cell (p := ⟨bq, oq + q, none⟩) hbq).trans hcq
        have hlt9 : bq < w9.heap.size := Nat.lt_of_lt_of_le hbq hbe9.size
        clear to9 hbe8 hc8 hlt8 HDr
        have hS0 := ls_start hc9 hT9
        have hFr := fun W (h : W.cell? ⟨bq, oq + q, none⟩ = some (.int .i64 x) ∧ Txn W t m f n fr2 p1 k1 D2 ∧ Below w9.heap.size w9 W) => tfresh_any t m f n _ _ _ _ x hwq W h.2.1
        rw [hnf] at hFr
        have hFe := fun W (h : W.cell? ⟨bq, oq + q, none⟩ = some (.int .i64 x) ∧ Txn W t m f n fr2 p1 k1 D2 ∧ Below w9.heap.size w9 W) => (tfree_any t m f n _ _ _ _ W h.2.1 (by omega)).mono (R' := fun e w' => ∃ A c, e = .returned (.slice A fr2.length c) ∧ RS w' w'.heap.size A fr2 ∧ Below W.heap.size W w') (fun e w' h => by obtain ⟨A, c, e1, _, r, b⟩ := h.open_; exact ⟨A, c, e1, r, b⟩)
        have hHs := fun W A c (h : RS W W.heap.size A fr2) => has_any A c fr2 x W h (by omega)
        have hyf2 : is = true → Rp.has fr2 x = true := hyf
        generalize Rp.has fr2 x = hv at *
        clear hT9 hyf hnf
        go_wp2_with fail
        cases is with
        | true =>
          obtain rfl : hv = true := hyf2 rfl
          refine wp_region_held_drew (S := (fun W => W.cell? ⟨bq, oq + q, none⟩ = some (.int .i64 x) ∧ Txn W t m f n fr2 p1 k1 D2 ∧ Below w9.heap.size w9 W)) (by kernel_rfl) hS0 (fun hHeld => ?_)
          refine wpAnyH_take (i := 0) (oi := ⟨_, _, _, _, _, _⟩) (v := _) rfl (by kernel_rfl) (by kernel_rfl) (by kernel_rfl) (fun _ _ _ h => h) (Or.inl ⟨by kernel_rfl, (by intro w hSw; (try dsimp only at hSw); go_simp; try with_reducible rfl)⟩) (by assumption) ?_
          try simp only [Act.put, List.setIfInBounds_toArray, List.set_cons_zero, List.set_cons_succ]
          refine wpAnyH_take (i := 1) (oi := ⟨_, _, _, _, _, _⟩) (v := _) rfl (by kernel_rfl) (by kernel_rfl) (by kernel_rfl) (fun _ _ _ h => h) (Or.inl ⟨by kernel_rfl, (by intro w hSw; (try dsimp only at hSw); go_simp; try with_reducible rfl)⟩) (by assumption) ?_
          try simp only [Act.put, List.setIfInBounds_toArray, List.set_cons_zero, List.set_cons_succ]
          refine wpAnyH_take (i := 2) (oi := ⟨_, _, _, _, _, _⟩) (v := _) rfl (by kernel_rfl) (by kernel_rfl) (by kernel_rfl) (fun _ _ _ h => h) (Or.inl ⟨by kernel_rfl, (by intro w hSw; (try dsimp only at hSw); go_simp; try with_reducible rfl)⟩) (by assumption) ?_
          try simp only [Act.put, List.setIfInBounds_toArray, List.set_cons_zero, List.set_cons_succ]
          refine wpAnyH_take (i := 3) (oi := ⟨_, _, _, _, _, _⟩) (v := _) rfl (by kernel_rfl) (by kernel_rfl) (by kernel_rfl) (fun _ _ _ h => h) (Or.inl ⟨by kernel_rfl, (by intro w hSw; (try dsimp only at hSw); go_simp; try with_reducible rfl)⟩) (by assumption) ?_
          try simp only [Act.put, List.setIfInBounds_toArray, List.set_cons_zero, List.set_cons_succ]
          refine wpAnyH_take (i := 4) (oi := ⟨_, _, _, _, _, _⟩) (v := _) rfl (by kernel_rfl) (by kernel_rfl) (by kernel_rfl) (fun _ _ _ h => h) (Or.inl ⟨by kernel_rfl, (by intro w hSw; (try dsimp only at hSw); go_simp; try with_reducible rfl)⟩) (by assumption) ?_
          try simp only [Act.put, List.setIfInBounds_toArray, List.set_cons_zero, List.set_cons_succ]
          refine wpAnyH_ready (rs := [5]) (by kernel_rfl) (by simp) ?_
          refine AllReadyH.cons (o := ⟨_, _, _, _, _, _⟩) rfl (fun K hK => ?_) AllReadyH.nil
          go_simp
          go_at_call 22; refine (hFr _ (by assumption)).mono ?_; rintro e wA ⟨rfl, bA⟩
          refine hK.out _ _ (ls_keep hlt9 (by assumption) bA) (fun hHeld => ?_)
          clear hK K
          try simp only [Act.put, List.setIfInBounds_toArray, List.set_cons_zero, List.set_cons_succ]
          refine wpAnyH_take (i := 6) (oi := ⟨_, _, _, _, _, _⟩) (v := _) rfl (by kernel_rfl) (by kernel_rfl) (by kernel_rfl) (fun _ _ _ h => h) (Or.inl ⟨by kernel_rfl, (by intro w hSw; (try dsimp only at hSw); go_simp; try with_reducible rfl)⟩) (by assumption) ?_
          try simp only [Act.put, List.setIfInBounds_toArray, List.set_cons_zero, List.set_cons_succ]
          refine wpAnyH_take (i := 7) (oi := ⟨_, _, _, _, _, _⟩) (v := _) rfl (by kernel_rfl) (by kernel_rfl) (by kernel_rfl) (fun _ _ _ h => h) (Or.inl ⟨by kernel_rfl, (by intro w hSw; (try dsimp only at hSw); go_simp; try with_reducible rfl)⟩) (by assumption) ?_
          try simp only [Act.put, List.setIfInBounds_toArray, List.set_cons_zero, List.set_cons_succ]
          refine wpAnyH_take (i := 9) (oi := ⟨_, _, _, _, _, _⟩) (v := _) rfl (by kernel_rfl) (by kernel_rfl) (by kernel_rfl) (fun _ _ _ h => h) (Or.inl ⟨by kernel_rfl, (by intro w hSw; (try dsimp only at hSw); go_simp; try with_reducible rfl)⟩) (by assumption) ?_
          try simp only [Act.put, List.setIfInBounds_toArray, List.set_cons_zero, List.set_cons_succ]
          refine wpAnyH_take (i := 10) (oi := ⟨_, _, _, _, _, _⟩) (v := _) rfl (by kernel_rfl) (by kernel_rfl) (by kernel_rfl) (fun _ _ _ h => h) (Or.inl ⟨by kernel_rfl, (by intro w hSw; (try dsimp only at hSw); go_simp; try with_reducible rfl)⟩) (by assumption) ?_
          try simp only [Act.put, List.setIfInBounds_toArray, List.set_cons_zero, List.set_cons_succ]
          refine wpAnyH_take (i := 11) (oi := ⟨_, _, _, _, _, _⟩) (v := _) rfl (by kernel_rfl) (by kernel_rfl) (by kernel_rfl) (fun _ _ _ h => h) (Or.inl ⟨by kernel_rfl, (by intro w hSw; (try dsimp only at hSw); go_simp; try with_reducible rfl)⟩) (by assumption) ?_
          try simp only [Act.put, List.setIfInBounds_toArray, List.set_cons_zero, List.set_cons_succ]
          refine wpAnyH_take (i := 12) (oi := ⟨_, _, _, _, _, _⟩) (v := _) rfl (by kernel_rfl) (by kernel_rfl) (by kernel_rfl) (fun _ _ _ h => h) (Or.inl ⟨by kernel_rfl, (by intro w hSw; (try dsimp only at hSw); go_simp; try with_reducible rfl)⟩) (by assumption) ?_
          try simp only [Act.put, List.setIfInBounds_toArray, List.set_cons_zero, List.set_cons_succ]
          refine wpAnyH_take (i := 14) (oi := ⟨_, _, _, _, _, _⟩) (v := _) rfl (by kernel_rfl) (by kernel_rfl) (by kernel_rfl) (fun _ _ _ h => h) (Or.inl ⟨by kernel_rfl, (by intro w hSw; (try dsimp only at hSw); go_simp; try with_reducible rfl)⟩) (by assumption) ?_
          try simp only [Act.put, List.setIfInBounds_toArray, List.set_cons_zero, List.set_cons_succ]
          refine wpAnyH_ready (rs := [8]) (by kernel_rfl) (by simp) ?_
          refine AllReadyH.cons (o := ⟨_, _, _, _, _, _⟩) rfl (fun K hK => ?_) AllReadyH.nil
          go_simp
          go_at_call 20; refine (hFe _ (by assumption)).mono ?_; rintro e wB ⟨A5, c5, rfl, r5, bA⟩
          refine hK.out _ _ (ls_keep hlt9 (by assumption) bA) (fun hHeld => ?_)
          clear hK K
          try simp only [Act.put, List.setIfInBounds_toArray, List.set_cons_zero, List.set_cons_succ]
          refine wpAnyH_ready (rs := [13]) (by kernel_rfl) (by simp) ?_
          refine AllReadyH.cons (o := ⟨_, _, _, _, _, _⟩) rfl (fun K hK => ?_) AllReadyH.nil
          go_simp
          go_at_call 24; refine (hHs _ _ _ (by assumption)).mono ?_; rintro e wC ⟨rfl, bA⟩
          refine hK.out _ _ (ls_keep hlt9 (by assumption) bA) (fun hHeld => ?_)
          clear hK K
          try simp only [Act.put, List.setIfInBounds_toArray, List.set_cons_zero, List.set_cons_succ]
          refine wpAnyH_take (i := 15) (oi := ⟨_, _, _, _, _, _⟩) (v := _) rfl (by kernel_rfl) (by kernel_rfl) (by kernel_rfl) (fun _ _ _ h => h) (Or.inl ⟨by kernel_rfl, (by intro w hSw; (try dsimp only at hSw); go_simp; try with_reducible rfl)⟩) (by assumption) ?_
          try simp only [Act.put, List.setIfInBounds_toArray, List.set_cons_zero, List.set_cons_succ]
          refine wpAnyH_take (i := 16) (oi := ⟨_, _, _, _, _, _⟩) (v := undef) rfl (by kernel_rfl) (by kernel_rfl) (by kernel_rfl) (fun _ _ _ h => h) (Or.inr ⟨by kernel_rfl, rfl⟩) (by assumption) ?_
          try simp only [Act.put, List.setIfInBounds_toArray, List.set_cons_zero, List.set_cons_succ]
          refine wpAnyH_take (i := 17) (oi := ⟨_, _, _, _, _, _⟩) (v := undef) rfl (by kernel_rfl) (by kernel_rfl) (by kernel_rfl) (fun _ _ _ h => h) (Or.inr ⟨by kernel_rfl, rfl⟩) (by assumption) ?_
          try simp only [Act.put, List.setIfInBounds_toArray, List.set_cons_zero, List.set_cons_succ]
          refine wpAnyH_take (i := 18) (oi := ⟨_, _, _, _, _, _⟩) (v := undef) rfl (by kernel_rfl) (by kernel_rfl) (by kernel_rfl) (fun _ _ _ h => h) (Or.inr ⟨by kernel_rfl, rfl⟩) (by assumption) ?_
          try simp only [Act.put, List.setIfInBounds_toArray, List.set_cons_zero, List.set_cons_succ]
          refine wpAnyH_take (i := 19) (oi := ⟨_, _, _, _, _, _⟩) (v := undef) rfl (by kernel_rfl) (by kernel_rfl) (by kernel_rfl) (fun _ _ _ h => h) (Or.inr ⟨by kernel_rfl, rfl⟩) (by assumption) ?_
          try simp only [Act.put, List.setIfInBounds_toArray, List.set_cons_zero, List.set_cons_succ]
          refine wpAnyH_take (i := 20) (oi := ⟨_, _, _, _, _, _⟩) (v := undef) rfl (by kernel_rfl) (by kernel_rfl) (by kernel_rfl) (fun _ _ _ h => h) (Or.inr ⟨by kernel_rfl, rfl⟩) (by assumption) ?_
          try simp only [Act.put, List.setIfInBounds_toArray, List.set_cons_zero, List.set_cons_succ]
          refine wpAnyH_take (i := 21) (oi := ⟨_, _, _, _, _, _⟩) (v := undef) rfl (by kernel_rfl) (by kernel_rfl) (by kernel_rfl) (fun _ _ _ h => h) (Or.inr ⟨by kernel_rfl, rfl⟩) (by assumption) ?_
          try simp only [Act.put, List.setIfInBounds_toArray, List.set_cons_zero, List.set_cons_succ]
          refine wpAnyH_take (i := 22) (oi := ⟨_, _, _, _, _, _⟩) (v := undef) rfl (by kernel_rfl) (by kernel_rfl) (by kernel_rfl) (fun _ _ _ h => h) (Or.inr ⟨by kernel_rfl, rfl⟩) (by assumption) ?_
          try simp only [Act.put, List.setIfInBounds_toArray, List.set_cons_zero, List.set_cons_succ]
          refine wpAnyH_take (i := 23) (oi := ⟨_, _, _, _, _, _⟩) (v := _) rfl (by kernel_rfl) (by kernel_rfl) (by kernel_rfl) (fun _ _ _ h => h) (Or.inl ⟨by kernel_rfl, (by intro w hSw; (try dsimp only at hSw); go_simp; try with_reducible rfl)⟩) (by assumption) ?_
          try simp only [Act.put, List.setIfInBounds_toArray, List.set_cons_zero, List.set_cons_succ]
          refine wpAnyH_take (i := 24) (oi := ⟨_, _, _, _, _, _⟩) (v := _) rfl (by kernel_rfl) (by kernel_rfl) (by kernel_rfl) (fun _ _ _ h => h) (Or.inl ⟨by kernel_rfl, (by intro w hSw; (try dsimp only at hSw); go_simp; try with_reducible rfl)⟩) (by assumption) ?_
          try simp only [Act.put, List.setIfInBounds_toArray, List.set_cons_zero, List.set_cons_succ]
          refine wpAnyH_take (i := 25) (oi := ⟨_, _, _, _, _, _⟩) (v := _) rfl (by kernel_rfl) (by kernel_rfl) (by kernel_rfl) (fun _ _ _ h => h) (Or.inl ⟨by kernel_rfl, (by intro w hSw; (try dsimp only at hSw); go_simp; try with_reducible rfl)⟩) (by assumption) ?_
          try simp only [Act.put, List.setIfInBounds_toArray, List.set_cons_zero, List.set_cons_succ]
          refine wpAnyH_done (by kernel_rfl) ?_ _
          go_wp2
          go_roundw
          case rel => exact ⟨q + 1, fr2, p1, k1, D2, by omega, by go_num, ⟨(ls_fin (p := ⟨bq, oq + q, none⟩) (x := x) (w0 := w9) (by assumption)).1, by omega, hp1, by omega, hkf⟩, hbe9.trans ((ls_fin (p := ⟨bq, oq + q, none⟩) (x := x) (w0 := w9) (t := t) (m := m) (f := f) (n := n) (k := k1) (fr := fr2) (pg := p1) (D := D2) (by assumption)).2.mono hbe9.size)⟩
          case measure => simp [intOf]; omega
        | false =>
          (first | (go_region_held3 (fun W => W.cell? ⟨bq, oq + q, none⟩ = some (.int .i64 x) ∧ Txn W t m f n fr2 p1 k1 D2 ∧ Below w9.heap.size w9 W) (first | exact hS0 | exact ls_keep hlt9 (by assumption) (by assumption))
            (first
              | (go_at_call 22; refine (hFr _ (by assumption)).mono ?_; rintro e wA ⟨rfl, bA⟩)
              | (go_at_call 20; refine (hFe _ (by assumption)).mono ?_; rintro e wA ⟨A5, c5, rfl, r5, bA⟩)
              | (go_at_call 24; refine (hHs _ _ _ (by assumption)).mono ?_; rintro e wA ⟨rfl, bA⟩))))
          all_goals
            go_wp2
            go_roundw
            case rel => exact ⟨q + 1, fr2, p1, k1, D2, by omega, by go_num, ⟨(ls_fin (p := ⟨bq, oq + q, none⟩) (x := x) (w0 := w9) (by assumption)).1, by omega, hp1, by omega, hkf⟩, hbe9.trans ((ls_fin (p := ⟨bq, oq + q, none⟩) (x := x) (w0 := w9) (t := t) (m := m) (f := f) (n := n) (k := k1) (fr := fr2) (pg := p1) (D := D2) (by assumption)).2.mono hbe9.size)⟩
            case measure => simp [intOf]; omega
      · -- the second way
        go_wp2_with fail
        refine (tpages_any t m f n _ _ _ _ _ hT7).mono ?_
        rintro e w' ⟨rfl, hw⟩; replace hw := hw.symm; subst hw
        go_wp2_with fail
        have hc7 : w7.cell? ⟨bq, oq + q, none⟩ = some (.int .i64 x) := (hbe7.cell (p := ⟨bq, oq + q, none⟩) hbq).trans hcq
        have hlt7 : bq < w7.heap.size := Nat.lt_of_lt_of_le hbq hbe7.size
        refine (tfresh_any t m f n _ _ _ _ x hwq _ hT7).mono ?_
        rintro e w8 ⟨rfl, b8⟩
        have hT8 := hT7.below b8
        clear hT7
        have hbe8 := hbe7.trans (b8.mono hbe7.size)
        have hc8 : w8.cell? ⟨bq, oq + q, none⟩ = some (.int .i64 x) := (hbe8.cell (p := ⟨bq, oq + q, none⟩) hbq).trans hcq
        have hlt8 : bq < w8.heap.size := Nat.lt_of_lt_of_le hbq hbe8.size
        generalize Maps.has D1 (.int .i64 x) = is at *
        clear b8 hbe7 hc7 hlt7
        go_wp2_with fail
        refine (HDr w8 hT8).out.mono ?_
        rintro e w9 ⟨rfl, to9, hT9⟩
        clear hT8
        have hbe9 := hbe8.trans (to9.below htm2.1 htm2.2 hbe8.size)
        have hc9 : w9.cell? ⟨bq, oq + q, none⟩ = some (.int .i64 x) := (hbe9.cell (p := ⟨bq, oq + q, none⟩) hbq).trans hcq
        have hlt9 : bq < w9.heap.size := Nat.lt_of_lt_of_le hbq hbe9.size
        clear to9 hbe8 hc8 hlt8 HDr
        have hS0 := ls_start hc9 hT9
        have hFr := fun W (h : W.cell? ⟨bq, oq + q, none⟩ = some (.int .i64 x) ∧ Txn W t m f n fr2 (id + 1) k1 D2 ∧ Below w9.heap.size w9 W) => tfresh_any t m f n _ _ _ _ x hwq W h.2.1
        rw [hnf] at hFr
        have hFe := fun W (h : W.cell? ⟨bq, oq + q, none⟩ = some (.int .i64 x) ∧ Txn W t m f n fr2 (id + 1) k1 D2 ∧ Below w9.heap.size w9 W) => (tfree_any t m f n _ _ _ _ W h.2.1 (by omega)).mono (R' := fun e w' => ∃ A c, e = .returned (.slice A fr2.length c) ∧ RS w' w'.heap.size A fr2 ∧ Below W.heap.size W w') (fun e w' h => by obtain ⟨A, c, e1, _, r, b⟩ := h.open_; exact ⟨A, c, e1, r, b⟩)
        have hHs := fun W A c (h : RS W W.heap.size A fr2) => has_any A c fr2 x W h (by omega)
        have hyf2 : is = true → Rp.has fr2 x = true := hyf
        generalize Rp.has fr2 x = hv at *
        clear hT9 hyf hnf
        go_wp2_with fail
        cases is with
        | true =>
          obtain rfl : hv = true := hyf2 rfl
          refine wp_region_held_drew (S := (fun W => W.cell? ⟨bq, oq + q, none⟩ = some (.int .i64 x) ∧ Txn W t m f n fr2 (id + 1) k1 D2 ∧ Below w9.heap.size w9 W)) (by kernel_rfl) hS0 (fun hHeld => ?_)
          refine wpAnyH_take (i := 0) (oi := ⟨_, _, _, _, _, _⟩) (v := _) rfl (by kernel_rfl) (by kernel_rfl) (by kernel_rfl) (fun _ _ _ h => h) (Or.inl ⟨by kernel_rfl, (by intro w hSw; (try dsimp only at hSw); go_simp; try with_reducible rfl)⟩) (by assumption) ?_
          try simp only [Act.put, List.setIfInBounds_toArray, List.set_cons_zero, List.set_cons_succ]
          refine wpAnyH_take (i := 1) (oi := ⟨_, _, _, _, _, _⟩) (v := _) rfl (by kernel_rfl) (by kernel_rfl) (by kernel_rfl) (fun _ _ _ h => h) (Or.inl ⟨by kernel_rfl, (by intro w hSw; (try dsimp only at hSw); go_simp; try with_reducible rfl)⟩) (by assumption) ?_
          try simp only [Act.put, List.setIfInBounds_toArray, List.set_cons_zero, List.set_cons_succ]
          refine wpAnyH_take (i := 2) (oi := ⟨_, _, _, _, _, _⟩) (v := _) rfl (by kernel_rfl) (by kernel_rfl) (by kernel_rfl) (fun _ _ _ h => h) (Or.inl ⟨by kernel_rfl, (by intro w hSw; (try dsimp only at hSw); go_simp; try with_reducible rfl)⟩) (by assumption) ?_
          try simp only [Act.put, List.setIfInBounds_toArray, List.set_cons_zero, List.set_cons_succ]
          refine wpAnyH_take (i := 3) (oi := ⟨_, _, _, _, _, _⟩) (v := _) rfl (by kernel_rfl) (by kernel_rfl) (by kernel_rfl) (fun _ _ _ h => h) (Or.inl ⟨by kernel_rfl, (by intro w hSw; (try dsimp only at hSw); go_simp; try with_reducible rfl)⟩) (by assumption) ?_
          try simp only [Act.put, List.setIfInBounds_toArray, List.set_cons_zero, List.set_cons_succ]
          refine wpAnyH_take (i := 4) (oi := ⟨_, _, _, _, _, _⟩) (v := _) rfl (by kernel_rfl) (by kernel_rfl) (by kernel_rfl) (fun _ _ _ h => h) (Or.inl ⟨by kernel_rfl, (by intro w hSw; (try dsimp only at hSw); go_simp; try with_reducible rfl)⟩) (by assumption) ?_
          try simp only [Act.put, List.setIfInBounds_toArray, List.set_cons_zero, List.set_cons_succ]
          refine wpAnyH_ready (rs := [5]) (by kernel_rfl) (by simp) ?_
          refine AllReadyH.cons (o := ⟨_, _, _, _, _, _⟩) rfl (fun K hK => ?_) AllReadyH.nil
          go_simp
          go_at_call 22; refine (hFr _ (by assumption)).mono ?_; rintro e wA ⟨rfl, bA⟩
          refine hK.out _ _ (ls_keep hlt9 (by assumption) bA) (fun hHeld => ?_)
          clear hK K
          try simp only [Act.put, List.setIfInBounds_toArray, List.set_cons_zero, List.set_cons_succ]
          refine wpAnyH_take (i := 6) (oi := ⟨_, _, _, _, _, _⟩) (v := _) rfl (by kernel_rfl) (by kernel_rfl) (by kernel_rfl) (fun _ _ _ h => h) (Or.inl ⟨by kernel_rfl, (by intro w hSw; (try dsimp only at hSw); go_simp; try with_reducible rfl)⟩) (by assumption) ?_
          try simp only [Act.put, List.setIfInBounds_toArray, List.set_cons_zero, List.set_cons_succ]
          refine wpAnyH_take (i := 7) (oi := ⟨_, _, _, _, _, _⟩) (v := _) rfl (by kernel_rfl) (by kernel_rfl) (by kernel_rfl) (fun _ _ _ h => h) (Or.inl ⟨by kernel_rfl, (by intro w hSw; (try dsimp only at hSw); go_simp; try with_reducible rfl)⟩) (by assumption) ?_
          try simp only [Act.put, List.setIfInBounds_toArray, List.set_cons_zero, List.set_cons_succ]
          refine wpAnyH_take (i := 9) (oi := ⟨_, _, _, _, _, _⟩) (v := _) rfl (by kernel_rfl) (by kernel_rfl) (by kernel_rfl) (fun _ _ _ h => h) (Or.inl ⟨by kernel_rfl, (by intro w hSw; (try dsimp only at hSw); go_simp; try with_reducible rfl)⟩) (by assumption) ?_
          try simp only [Act.put, List.setIfInBounds_toArray, List.set_cons_zero, List.set_cons_succ]
          refine wpAnyH_take (i := 10) (oi := ⟨_, _, _, _, _, _⟩) (v := _) rfl (by kernel_rfl) (by kernel_rfl) (by kernel_rfl) (fun _ _ _ h => h) (Or.inl ⟨by kernel_rfl, (by intro w hSw; (try dsimp only at hSw); go_simp; try with_reducible rfl)⟩) (by assumption) ?_
          try simp only [Act.put, List.setIfInBounds_toArray, List.set_cons_zero, List.set_cons_succ]
          refine wpAnyH_take (i := 11) (oi := ⟨_, _, _, _, _, _⟩) (v := _) rfl (by kernel_rfl) (by kernel_rfl) (by kernel_rfl) (fun _ _ _ h => h) (Or.inl ⟨by kernel_rfl, (by intro w hSw; (try dsimp only at hSw); go_simp; try with_reducible rfl)⟩) (by assumption) ?_
          try simp only [Act.put, List.setIfInBounds_toArray, List.set_cons_zero, List.set_cons_succ]
          refine wpAnyH_take (i := 12) (oi := ⟨_, _, _, _, _, _⟩) (v := _) rfl (by kernel_rfl) (by kernel_rfl) (by kernel_rfl) (fun _ _ _ h => h) (Or.inl ⟨by kernel_rfl, (by intro w hSw; (try dsimp only at hSw); go_simp; try with_reducible rfl)⟩) (by assumption) ?_
          try simp only [Act.put, List.setIfInBounds_toArray, List.set_cons_zero, List.set_cons_succ]
          refine wpAnyH_take (i := 14) (oi := ⟨_, _, _, _, _, _⟩) (v := _) rfl (by kernel_rfl) (by kernel_rfl) (by kernel_rfl) (fun _ _ _ h => h) (Or.inl ⟨by kernel_rfl, (by intro w hSw; (try dsimp only at hSw); go_simp; try with_reducible rfl)⟩) (by assumption) ?_
          try simp only [Act.put, List.setIfInBounds_toArray, List.set_cons_zero, List.set_cons_succ]
          refine wpAnyH_ready (rs := [8]) (by kernel_rfl) (by simp) ?_
          refine AllReadyH.cons (o := ⟨_, _, _, _, _, _⟩) rfl (fun K hK => ?_) AllReadyH.nil
          go_simp
          go_at_call 20; refine (hFe _ (by assumption)).mono ?_; rintro e wB ⟨A5, c5, rfl, r5, bA⟩
          refine hK.out _ _ (ls_keep hlt9 (by assumption) bA) (fun hHeld => ?_)
          clear hK K
          try simp only [Act.put, List.setIfInBounds_toArray, List.set_cons_zero, List.set_cons_succ]
          refine wpAnyH_ready (rs := [13]) (by kernel_rfl) (by simp) ?_
          refine AllReadyH.cons (o := ⟨_, _, _, _, _, _⟩) rfl (fun K hK => ?_) AllReadyH.nil
          go_simp
          go_at_call 24; refine (hHs _ _ _ (by assumption)).mono ?_; rintro e wC ⟨rfl, bA⟩
          refine hK.out _ _ (ls_keep hlt9 (by assumption) bA) (fun hHeld => ?_)
          clear hK K
          try simp only [Act.put, List.setIfInBounds_toArray, List.set_cons_zero, List.set_cons_succ]
          refine wpAnyH_take (i := 15) (oi := ⟨_, _, _, _, _, _⟩) (v := _) rfl (by kernel_rfl) (by kernel_rfl) (by kernel_rfl) (fun _ _ _ h => h) (Or.inl ⟨by kernel_rfl, (by intro w hSw; (try dsimp only at hSw); go_simp; try with_reducible rfl)⟩) (by assumption) ?_
          try simp only [Act.put, List.setIfInBounds_toArray, List.set_cons_zero, List.set_cons_succ]
          refine wpAnyH_take (i := 16) (oi := ⟨_, _, _, _, _, _⟩) (v := undef) rfl (by kernel_rfl) (by kernel_rfl) (by kernel_rfl) (fun _ _ _ h => h) (Or.inr ⟨by kernel_rfl, rfl⟩) (by assumption) ?_
          try simp only [Act.put, List.setIfInBounds_toArray, List.set_cons_zero, List.set_cons_succ]
          refine wpAnyH_take (i := 17) (oi := ⟨_, _, _, _, _, _⟩) (v := undef) rfl (by kernel_rfl) (by kernel_rfl) (by kernel_rfl) (fun _ _ _ h => h) (Or.inr ⟨by kernel_rfl, rfl⟩) (by assumption) ?_
          try simp only [Act.put, List.setIfInBounds_toArray, List.set_cons_zero, List.set_cons_succ]
          refine wpAnyH_take (i := 18) (oi := ⟨_, _, _, _, _, _⟩) (v := undef) rfl (by kernel_rfl) (by kernel_rfl) (by kernel_rfl) (fun _ _ _ h => h) (Or.inr ⟨by kernel_rfl, rfl⟩) (by assumption) ?_
          try simp only [Act.put, List.setIfInBounds_toArray, List.set_cons_zero, List.set_cons_succ]
          refine wpAnyH_take (i := 19) (oi := ⟨_, _, _, _, _, _⟩) (v := undef) rfl (by kernel_rfl) (by kernel_rfl) (by kernel_rfl) (fun _ _ _ h => h) (Or.inr ⟨by kernel_rfl, rfl⟩) (by assumption) ?_
          try simp only [Act.put, List.setIfInBounds_toArray, List.set_cons_zero, List.set_cons_succ]
          refine wpAnyH_take (i := 20) (oi := ⟨_, _, _, _, _, _⟩) (v := undef) rfl (by kernel_rfl) (by kernel_rfl) (by kernel_rfl) (fun _ _ _ h => h) (Or.inr ⟨by kernel_rfl, rfl⟩) (by assumption) ?_
          try simp only [Act.put, List.setIfInBounds_toArray, List.set_cons_zero, List.set_cons_succ]
          refine wpAnyH_take (i := 21) (oi := ⟨_, _, _, _, _, _⟩) (v := undef) rfl (by kernel_rfl) (by kernel_rfl) (by kernel_rfl) (fun _ _ _ h => h) (Or.inr ⟨by kernel_rfl, rfl⟩) (by assumption) ?_
          try simp only [Act.put, List.setIfInBounds_toArray, List.set_cons_zero, List.set_cons_succ]
          refine wpAnyH_take (i := 22) (oi := ⟨_, _, _, _, _, _⟩) (v := undef) rfl (by kernel_rfl) (by kernel_rfl) (by kernel_rfl) (fun _ _ _ h => h) (Or.inr ⟨by kernel_rfl, rfl⟩) (by assumption) ?_
          try simp only [Act.put, List.setIfInBounds_toArray, List.set_cons_zero, List.set_cons_succ]
          refine wpAnyH_take (i := 23) (oi := ⟨_, _, _, _, _, _⟩) (v := _) rfl (by kernel_rfl) (by kernel_rfl) (by kernel_rfl) (fun _ _ _ h => h) (Or.inl ⟨by kernel_rfl, (by intro w hSw; (try dsimp only at hSw); go_simp; try with_reducible rfl)⟩) (by assumption) ?_
          try simp only [Act.put, List.setIfInBounds_toArray, List.set_cons_zero, List.set_cons_succ]
          refine wpAnyH_take (i := 24) (oi := ⟨_, _, _, _, _, _⟩) (v := _) rfl (by kernel_rfl) (by kernel_rfl) (by kernel_rfl) (fun _ _ _ h => h) (Or.inl ⟨by kernel_rfl, (by intro w hSw; (try dsimp only at hSw); go_simp; try with_reducible rfl)⟩) (by assumption) ?_
          try simp only [Act.put, List.setIfInBounds_toArray, List.set_cons_zero, List.set_cons_succ]
          refine wpAnyH_take (i := 25) (oi := ⟨_, _, _, _, _, _⟩) (v := _) rfl (by kernel_rfl) (by kernel_rfl) (by kernel_rfl) (fun _ _ _ h => h) (Or.inl ⟨by kernel_rfl, (by intro w hSw; (try dsimp only at hSw); go_simp; try with_reducible rfl)⟩) (by assumption) ?_
          try simp only [Act.put, List.setIfInBounds_toArray, List.set_cons_zero, List.set_cons_succ]
          refine wpAnyH_done (by kernel_rfl) ?_ _
          go_wp2
          go_roundw
          case rel => exact ⟨q + 1, fr2, id + 1, k1, D2, by omega, by go_num, ⟨(ls_fin (p := ⟨bq, oq + q, none⟩) (x := x) (w0 := w9) (by assumption)).1, by omega, hp1, by omega, hkf⟩, hbe9.trans ((ls_fin (p := ⟨bq, oq + q, none⟩) (x := x) (w0 := w9) (t := t) (m := m) (f := f) (n := n) (k := k1) (fr := fr2) (pg := id + 1) (D := D2) (by assumption)).2.mono hbe9.size)⟩
          case measure => simp [intOf]; omega
        | false =>
          (first | (go_region_held3 (fun W => W.cell? ⟨bq, oq + q, none⟩ = some (.int .i64 x) ∧ Txn W t m f n fr2 (id + 1) k1 D2 ∧ Below w9.heap.size w9 W) (first | exact hS0 | exact ls_keep hlt9 (by assumption) (by assumption))
            (first
              | (go_at_call 22; refine (hFr _ (by assumption)).mono ?_; rintro e wA ⟨rfl, bA⟩)
              | (go_at_call 20; refine (hFe _ (by assumption)).mono ?_; rintro e wA ⟨A5, c5, rfl, r5, bA⟩)
              | (go_at_call 24; refine (hHs _ _ _ (by assumption)).mono ?_; rintro e wA ⟨rfl, bA⟩))))
          all_goals
            go_wp2
            go_roundw
            case rel => exact ⟨q + 1, fr2, id + 1, k1, D2, by omega, by go_num, ⟨(ls_fin (p := ⟨bq, oq + q, none⟩) (x := x) (w0 := w9) (by assumption)).1, by omega, hp1, by omega, hkf⟩, hbe9.trans ((ls_fin (p := ⟨bq, oq + q, none⟩) (x := x) (w0 := w9) (t := t) (m := m) (f := f) (n := n) (k := k1) (fr := fr2) (pg := id + 1) (D := D2) (by assumption)).2.mono hbe9.size)⟩
            case measure => simp [intOf]; omega
      · -- the third way
        go_wp2_with fail
        have hc7 : w7.cell? ⟨bq, oq + q, none⟩ = some (.int .i64 x) := (hbe7.cell (p := ⟨bq, oq + q, none⟩) hbq).trans hcq
        have hlt7 : bq < w7.heap.size := Nat.lt_of_lt_of_le hbq hbe7.size
        refine (tfresh_any t m f n _ _ _ _ x hwq _ hT7).mono ?_
        rintro e w8 ⟨rfl, b8⟩
        have hT8 := hT7.below b8
        clear hT7
        have hbe8 := hbe7.trans (b8.mono hbe7.size)
        have hc8 : w8.cell? ⟨bq, oq + q, none⟩ = some (.int .i64 x) := (hbe8.cell (p := ⟨bq, oq + q, none⟩) hbq).trans hcq
        have hlt8 : bq < w8.heap.size := Nat.lt_of_lt_of_le hbq hbe8.size
        generalize Maps.has D1 (.int .i64 x) = is at *
        clear b8 hbe7 hc7 hlt7
        go_wp2_with fail
        refine (HDr w8 hT8).out.mono ?_
        rintro e w9 ⟨rfl, to9, hT9⟩
        clear hT8
        have hbe9 := hbe8.trans (to9.below htm2.1 htm2.2 hbe8.size)
        have hc9 : w9.cell? ⟨bq, oq + q, none⟩ = some (.int .i64 x) := (hbe9.cell (p := ⟨bq, oq + q, none⟩) hbq).trans hcq
        have hlt9 : bq < w9.heap.size := Nat.lt_of_lt_of_le hbq hbe9.size
        clear to9 hbe8 hc8 hlt8 HDr
        have hS0 := ls_start hc9 hT9
        have hFr := fun W (h : W.cell? ⟨bq, oq + q, none⟩ = some (.int .i64 x) ∧ Txn W t m f n fr2 p1 k1 D2 ∧ Below w9.heap.size w9 W) => tfresh_any t m f n _ _ _ _ x hwq W h.2.1
        rw [hnf] at hFr
        have hFe := fun W (h : W.cell? ⟨bq, oq + q, none⟩ = some (.int .i64 x) ∧ Txn W t m f n fr2 p1 k1 D2 ∧ Below w9.heap.size w9 W) => (tfree_any t m f n _ _ _ _ W h.2.1 (by omega)).mono (R' := fun e w' => ∃ A c, e = .returned (.slice A fr2.length c) ∧ RS w' w'.heap.size A fr2 ∧ Below W.heap.size W w') (fun e w' h => by obtain ⟨A, c, e1, _, r, b⟩ := h.open_; exact ⟨A, c, e1, r, b⟩)
        have hHs := fun W A c (h : RS W W.heap.size A fr2) => has_any A c fr2 x W h (by omega)
        have hyf2 : is = true → Rp.has fr2 x = true := hyf
        generalize Rp.has fr2 x = hv at *
        clear hT9 hyf hnf
        go_wp2_with fail
        cases is with
        | true =>
          obtain rfl : hv = true := hyf2 rfl
          refine wp_region_held_drew (S := (fun W => W.cell? ⟨bq, oq + q, none⟩ = some (.int .i64 x) ∧ Txn W t m f n fr2 p1 k1 D2 ∧ Below w9.heap.size w9 W)) (by kernel_rfl) hS0 (fun hHeld => ?_)
          refine wpAnyH_take (i := 0) (oi := ⟨_, _, _, _, _, _⟩) (v := _) rfl (by kernel_rfl) (by kernel_rfl) (by kernel_rfl) (fun _ _ _ h => h) (Or.inl ⟨by kernel_rfl, (by intro w hSw; (try dsimp only at hSw); go_simp; try with_reducible rfl)⟩) (by assumption) ?_
          try simp only [Act.put, List.setIfInBounds_toArray, List.set_cons_zero, List.set_cons_succ]
          refine wpAnyH_take (i := 1) (oi := ⟨_, _, _, _, _, _⟩) (v := _) rfl (by kernel_rfl) (by kernel_rfl) (by kernel_rfl) (fun _ _ _ h => h) (Or.inl ⟨by kernel_rfl, (by intro w hSw; (try dsimp only at hSw); go_simp; try with_reducible rfl)⟩) (by assumption) ?_
          try simp only [Act.put, List.setIfInBounds_toArray, List.set_cons_zero, List.set_cons_succ]
          refine wpAnyH_take (i := 2) (oi := ⟨_, _, _, _, _, _⟩) (v := _) rfl (by kernel_rfl) (by kernel_rfl) (by kernel_rfl) (fun _ _ _ h => h) (Or.inl ⟨by kernel_rfl, (by intro w hSw; (try dsimp only at hSw); go_simp; try with_reducible rfl)⟩) (by assumption) ?_
          try simp only [Act.put, List.setIfInBounds_toArray, List.set_cons_zero, List.set_cons_succ]
          refine wpAnyH_take (i := 3) (oi := ⟨_, _, _, _, _, _⟩) (v := _) rfl (by kernel_rfl) (by kernel_rfl) (by kernel_rfl) (fun _ _ _ h => h) (Or.inl ⟨by kernel_rfl, (by intro w hSw; (try dsimp only at hSw); go_simp; try with_reducible rfl)⟩) (by assumption) ?_
          try simp only [Act.put, List.setIfInBounds_toArray, List.set_cons_zero, List.set_cons_succ]
          refine wpAnyH_take (i := 4) (oi := ⟨_, _, _, _, _, _⟩) (v := _) rfl (by kernel_rfl) (by kernel_rfl) (by kernel_rfl) (fun _ _ _ h => h) (Or.inl ⟨by kernel_rfl, (by intro w hSw; (try dsimp only at hSw); go_simp; try with_reducible rfl)⟩) (by assumption) ?_
          try simp only [Act.put, List.setIfInBounds_toArray, List.set_cons_zero, List.set_cons_succ]
          refine wpAnyH_ready (rs := [5]) (by kernel_rfl) (by simp) ?_
          refine AllReadyH.cons (o := ⟨_, _, _, _, _, _⟩) rfl (fun K hK => ?_) AllReadyH.nil
          go_simp
          go_at_call 22; refine (hFr _ (by assumption)).mono ?_; rintro e wA ⟨rfl, bA⟩
          refine hK.out _ _ (ls_keep hlt9 (by assumption) bA) (fun hHeld => ?_)
          clear hK K
          try simp only [Act.put, List.setIfInBounds_toArray, List.set_cons_zero, List.set_cons_succ]
          refine wpAnyH_take (i := 6) (oi := ⟨_, _, _, _, _, _⟩) (v := _) rfl (by kernel_rfl) (by kernel_rfl) (by kernel_rfl) (fun _ _ _ h => h) (Or.inl ⟨by kernel_rfl, (by intro w hSw; (try dsimp only at hSw); go_simp; try with_reducible rfl)⟩) (by assumption) ?_
          try simp only [Act.put, List.setIfInBounds_toArray, List.set_cons_zero, List.set_cons_succ]
          refine wpAnyH_take (i := 7) (oi := ⟨_, _, _, _, _, _⟩) (v := _) rfl (by kernel_rfl) (by kernel_rfl) (by kernel_rfl) (fun _ _ _ h => h) (Or.inl ⟨by kernel_rfl, (by intro w hSw; (try dsimp only at hSw); go_simp; try with_reducible rfl)⟩) (by assumption) ?_
          try simp only [Act.put, List.setIfInBounds_toArray, List.set_cons_zero, List.set_cons_succ]
          refine wpAnyH_take (i := 9) (oi := ⟨_, _, _, _, _, _⟩) (v := _) rfl (by kernel_rfl) (by kernel_rfl) (by kernel_rfl) (fun _ _ _ h => h) (Or.inl ⟨by kernel_rfl, (by intro w hSw; (try dsimp only at hSw); go_simp; try with_reducible rfl)⟩) (by assumption) ?_
          try simp only [Act.put, List.setIfInBounds_toArray, List.set_cons_zero, List.set_cons_succ]
          refine wpAnyH_take (i := 10) (oi := ⟨_, _, _, _, _, _⟩) (v := _) rfl (by kernel_rfl) (by kernel_rfl) (by kernel_rfl) (fun _ _ _ h => h) (Or.inl ⟨by kernel_rfl, (by intro w hSw; (try dsimp only at hSw); go_simp; try with_reducible rfl)⟩) (by assumption) ?_
          try simp only [Act.put, List.setIfInBounds_toArray, List.set_cons_zero, List.set_cons_succ]
          refine wpAnyH_take (i := 11) (oi := ⟨_, _, _, _, _, _⟩) (v := _) rfl (by kernel_rfl) (by kernel_rfl) (by kernel_rfl) (fun _ _ _ h => h) (Or.inl ⟨by kernel_rfl, (by intro w hSw; (try dsimp only at hSw); go_simp; try with_reducible rfl)⟩) (by assumption) ?_
          try simp only [Act.put, List.setIfInBounds_toArray, List.set_cons_zero, List.set_cons_succ]
          refine wpAnyH_take (i := 12) (oi := ⟨_, _, _, _, _, _⟩) (v := _) rfl (by kernel_rfl) (by kernel_rfl) (by kernel_rfl) (fun _ _ _ h => h) (Or.inl ⟨by kernel_rfl, (by intro w hSw; (try dsimp only at hSw); go_simp; try with_reducible rfl)⟩) (by assumption) ?_
          try simp only [Act.put, List.setIfInBounds_toArray, List.set_cons_zero, List.set_cons_succ]
          refine wpAnyH_take (i := 14) (oi := ⟨_, _, _, _, _, _⟩) (v := _) rfl (by kernel_rfl) (by kernel_rfl) (by kernel_rfl) (fun _ _ _ h => h) (Or.inl ⟨by kernel_rfl, (by intro w hSw; (try dsimp only at hSw); go_simp; try with_reducible rfl)⟩) (by assumption) ?_
          try simp only [Act.put, List.setIfInBounds_toArray, List.set_cons_zero, List.set_cons_succ]
          refine wpAnyH_ready (rs := [8]) (by kernel_rfl) (by simp) ?_
          refine AllReadyH.cons (o := ⟨_, _, _, _, _, _⟩) rfl (fun K hK => ?_) AllReadyH.nil
          go_simp
          go_at_call 20; refine (hFe _ (by assumption)).mono ?_; rintro e wB ⟨A5, c5, rfl, r5, bA⟩
          refine hK.out _ _ (ls_keep hlt9 (by assumption) bA) (fun hHeld => ?_)
          clear hK K
          try simp only [Act.put, List.setIfInBounds_toArray, List.set_cons_zero, List.set_cons_succ]
          refine wpAnyH_ready (rs := [13]) (by kernel_rfl) (by simp) ?_
          refine AllReadyH.cons (o := ⟨_, _, _, _, _, _⟩) rfl (fun K hK => ?_) AllReadyH.nil
          go_simp
          go_at_call 24; refine (hHs _ _ _ (by assumption)).mono ?_; rintro e wC ⟨rfl, bA⟩
          refine hK.out _ _ (ls_keep hlt9 (by assumption) bA) (fun hHeld => ?_)
          clear hK K
          try simp only [Act.put, List.setIfInBounds_toArray, List.set_cons_zero, List.set_cons_succ]
          refine wpAnyH_take (i := 15) (oi := ⟨_, _, _, _, _, _⟩) (v := _) rfl (by kernel_rfl) (by kernel_rfl) (by kernel_rfl) (fun _ _ _ h => h) (Or.inl ⟨by kernel_rfl, (by intro w hSw; (try dsimp only at hSw); go_simp; try with_reducible rfl)⟩) (by assumption) ?_
          try simp only [Act.put, List.setIfInBounds_toArray, List.set_cons_zero, List.set_cons_succ]
          refine wpAnyH_take (i := 16) (oi := ⟨_, _, _, _, _, _⟩) (v := undef) rfl (by kernel_rfl) (by kernel_rfl) (by kernel_rfl) (fun _ _ _ h => h) (Or.inr ⟨by kernel_rfl, rfl⟩) (by assumption) ?_
          try simp only [Act.put, List.setIfInBounds_toArray, List.set_cons_zero, List.set_cons_succ]
          refine wpAnyH_take (i := 17) (oi := ⟨_, _, _, _, _, _⟩) (v := undef) rfl (by kernel_rfl) (by kernel_rfl) (by kernel_rfl) (fun _ _ _ h => h) (Or.inr ⟨by kernel_rfl, rfl⟩) (by assumption) ?_
          try simp only [Act.put, List.setIfInBounds_toArray, List.set_cons_zero, List.set_cons_succ]
          refine wpAnyH_take (i := 18) (oi := ⟨_, _, _, _, _, _⟩) (v := undef) rfl (by kernel_rfl) (by kernel_rfl) (by kernel_rfl) (fun _ _ _ h => h) (Or.inr ⟨by kernel_rfl, rfl⟩) (by assumption) ?_
          try simp only [Act.put, List.setIfInBounds_toArray, List.set_cons_zero, List.set_cons_succ]
          refine wpAnyH_take (i := 19) (oi := ⟨_, _, _, _, _, _⟩) (v := undef) rfl (by kernel_rfl) (by kernel_rfl) (by kernel_rfl) (fun _ _ _ h => h) (Or.inr ⟨by kernel_rfl, rfl⟩) (by assumption) ?_
          try simp only [Act.put, List.setIfInBounds_toArray, List.set_cons_zero, List.set_cons_succ]
          refine wpAnyH_take (i := 20) (oi := ⟨_, _, _, _, _, _⟩) (v := undef) rfl (by kernel_rfl) (by kernel_rfl) (by kernel_rfl) (fun _ _ _ h => h) (Or.inr ⟨by kernel_rfl, rfl⟩) (by assumption) ?_
          try simp only [Act.put, List.setIfInBounds_toArray, List.set_cons_zero, List.set_cons_succ]
          refine wpAnyH_take (i := 21) (oi := ⟨_, _, _, _, _, _⟩) (v := undef) rfl (by kernel_rfl) (by kernel_rfl) (by kernel_rfl) (fun _ _ _ h => h) (Or.inr ⟨by kernel_rfl, rfl⟩) (by assumption) ?_
          try simp only [Act.put, List.setIfInBounds_toArray, List.set_cons_zero, List.set_cons_succ]
          refine wpAnyH_take (i := 22) (oi := ⟨_, _, _, _, _, _⟩) (v := undef) rfl (by kernel_rfl) (by kernel_rfl) (by kernel_rfl) (fun _ _ _ h => h) (Or.inr ⟨by kernel_rfl, rfl⟩) (by assumption) ?_
          try simp only [Act.put, List.setIfInBounds_toArray, List.set_cons_zero, List.set_cons_succ]
          refine wpAnyH_take (i := 23) (oi := ⟨_, _, _, _, _, _⟩) (v := _) rfl (by kernel_rfl) (by kernel_rfl) (by kernel_rfl) (fun _ _ _ h => h) (Or.inl ⟨by kernel_rfl, (by intro w hSw; (try dsimp only at hSw); go_simp; try with_reducible rfl)⟩) (by assumption) ?_
          try simp only [Act.put, List.setIfInBounds_toArray, List.set_cons_zero, List.set_cons_succ]
          refine wpAnyH_take (i := 24) (oi := ⟨_, _, _, _, _, _⟩) (v := _) rfl (by kernel_rfl) (by kernel_rfl) (by kernel_rfl) (fun _ _ _ h => h) (Or.inl ⟨by kernel_rfl, (by intro w hSw; (try dsimp only at hSw); go_simp; try with_reducible rfl)⟩) (by assumption) ?_
          try simp only [Act.put, List.setIfInBounds_toArray, List.set_cons_zero, List.set_cons_succ]
          refine wpAnyH_take (i := 25) (oi := ⟨_, _, _, _, _, _⟩) (v := _) rfl (by kernel_rfl) (by kernel_rfl) (by kernel_rfl) (fun _ _ _ h => h) (Or.inl ⟨by kernel_rfl, (by intro w hSw; (try dsimp only at hSw); go_simp; try with_reducible rfl)⟩) (by assumption) ?_
          try simp only [Act.put, List.setIfInBounds_toArray, List.set_cons_zero, List.set_cons_succ]
          refine wpAnyH_done (by kernel_rfl) ?_ _
          go_wp2
          go_roundw
          case rel => exact ⟨q + 1, fr2, p1, k1, D2, by omega, by go_num, ⟨(ls_fin (p := ⟨bq, oq + q, none⟩) (x := x) (w0 := w9) (by assumption)).1, by omega, hp1, by omega, hkf⟩, hbe9.trans ((ls_fin (p := ⟨bq, oq + q, none⟩) (x := x) (w0 := w9) (t := t) (m := m) (f := f) (n := n) (k := k1) (fr := fr2) (pg := p1) (D := D2) (by assumption)).2.mono hbe9.size)⟩
          case measure => simp [intOf]; omega
        | false =>
          (first | (go_region_held3 (fun W => W.cell? ⟨bq, oq + q, none⟩ = some (.int .i64 x) ∧ Txn W t m f n fr2 p1 k1 D2 ∧ Below w9.heap.size w9 W) (first | exact hS0 | exact ls_keep hlt9 (by assumption) (by assumption))
            (first
              | (go_at_call 22; refine (hFr _ (by assumption)).mono ?_; rintro e wA ⟨rfl, bA⟩)
              | (go_at_call 20; refine (hFe _ (by assumption)).mono ?_; rintro e wA ⟨A5, c5, rfl, r5, bA⟩)
              | (go_at_call 24; refine (hHs _ _ _ (by assumption)).mono ?_; rintro e wA ⟨rfl, bA⟩))))
          all_goals
            go_wp2
            go_roundw
            case rel => exact ⟨q + 1, fr2, p1, k1, D2, by omega, by go_num, ⟨(ls_fin (p := ⟨bq, oq + q, none⟩) (x := x) (w0 := w9) (by assumption)).1, by omega, hp1, by omega, hkf⟩, hbe9.trans ((ls_fin (p := ⟨bq, oq + q, none⟩) (x := x) (w0 := w9) (t := t) (m := m) (f := f) (n := n) (k := k1) (fr := fr2) (pg := p1) (D := D2) (by assumption)).2.mono hbe9.size)⟩
            case measure => simp [intOf]; omega
    · obtain rfl : q = dr.length := by omega
      go_wp2
      go_ret
      exact ⟨rfl, hbe⟩
theorem allocLeast_any (s : Int) (A A2 : Option Addr) (n c n2 c2 : Nat) (l : List Run) (dr : List Int) (pages : Int) (w : World) (hln : l.length = n) (hdn : dr.length = n2) (hr : RS w w.heap.size A l) (hdr : RI w w.heap.size A2 dr) (hwf : ∀ x ∈ dr, (Lit.int .i64 x).wf = true) :
    Calls Try.prog 4 #[.int .i64 s, .slice A n c, .int .i64 pages, .slice A2 n2 c2] w fun e w' => e = .returned (.bool true) ∧ Below w.heap.size w w' := by
  subst hln hdn
  by_cases h : s ≤ 30 ∧ l.length ≤ 100 ∧ dr.length ≤ 100
  · exact least_small s A A2 c c2 l dr pages w hr hdr hwf h.1 h.2.1 h.2.2
  · exact least_big s A A2 c c2 _ _ pages w h
end Go.Proofs.Ytknlcfiphkbbaaa
