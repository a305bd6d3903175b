/- The walk of rootstocklaw10.works. -/
import Derived.Test.YtlgbcogdogpihaaGreatDoorQTakenP
namespace Go.Proofs.YtlgbcogdogpihaaGreatDoor
open Go.RowKit Go.Shelf
/-- the allocator's answers, one way each, for a run of known states -/
theorem al_some {t m f n k : Nat} {free fr : List Run} {pages p id : Int} {D : DataW Value} (ho : allocV free pages (max (n : Int) 2) = some (id, fr, p)) (hl : free.length ≤ 80000) (hk : k < maxLen) (hp : 0 ≤ pages ∧ pages ≤ 1000000) (w : World) (h : Txn w t m f n free pages k D) :
    Calls Tryz.prog 29 #[.pointer (some ⟨t, 0, none⟩)] w fun e w' => e = .returned (.tuple #[.int .i64 id, .int .i64 0]) ∧ Touch t m w w' ∧ Txn w' t m f n fr p (k + 1) (D.put (.int .i64 id) (.held (content false 0 ⟨#[]⟩))) := by
  have hc := talloc_any t m f n k free pages D hl hk hp w h
  rw [ho] at hc
  refine hc.mono ?_
  rintro e w' ⟨h1, h2, h3⟩
  exact ⟨h2, h1, h3⟩
theorem al_none {t m f n k : Nat} {free : List Run} {pages : Int} {D : DataW Value} (ho : allocV free pages (max (n : Int) 2) = none) (hl : free.length ≤ 80000) (hk : k < maxLen) (hp : 0 ≤ pages ∧ pages ≤ 1000000) (w : World) (h : Txn w t m f n free pages k D) :
    Calls Tryz.prog 29 #[.pointer (some ⟨t, 0, none⟩)] w fun e w' => e = .returned (.tuple #[.int .i64 0, .int .i64 2]) ∧ Touch t m w w' ∧ Txn w' t m f n free pages k D := by
  have hc := talloc_any t m f n k free pages D hl hk hp w h
  rw [ho] at hc
  refine hc.mono ?_
  rintro e w' ⟨h1, h2, h3⟩
  exact ⟨h2, h1, h3⟩
set_option maxRecDepth 100000 in
set_option maxHeartbeats 1000000 in
theorem works_any (HT : TakenSaid) (w : World) : Calls Tryz.prog 25 #[] w fun e w' => e = .returned (.bool true) ∧ Below w.heap.size w w' := by
  have hd := fun W => dnew_of 6 W
  go_enter Tryz.func25, Tryz.ntmps25
  go_wp2_with fail
  refine (hd _).mono ?_
  rintro e w1 ⟨d, rfl, hdk, b1⟩
  go_wp2_with fail
  refine (fnew_any d _ _ hdk).mono ?_
  rintro e w2 ⟨f, rfl, hf, b2⟩
  have b12 := b1.trans (b2.mono b1.size)
  clear b1 b2 hdk hd
  go_wp2_with fail
  have e6 : diskN 6 = 6 := by decide
  rw [e6] at hf
  have hf3 := hf.keep (only_of_below ((Below.refl _ w2).alloc (Nat.le_refl _) (.cells #[.int .i64 3, .int .i64 3] 62)) none) (fun r e => by cases e)
  refine (tnew_any f 6 (some ⟨w2.heap.size, 0, none⟩) 1 [(3, 3)] 5 (by decide) _ hf3 (RS.single w2 3 3 62) (by simp)).mono ?_
  rintro e w3 ⟨t, m, rfl, htm, hT, b3⟩
  rw [ex_meet, show pagesN 5 6 = 5 by decide] at hT
  have b13 := (b12.alloc b12.size _).trans (b3.mono (by have := b12.size; simp; omega))
  have htm2 : w.heap.size ≤ t ∧ w.heap.size ≤ m := by have := b12.size; simp at htm; omega
  clear b12 b3 hf3 hf htm
  go_wp2_with fail
  refine (al_some ex_a1 (by decide) (by decide) (by omega) _ hT).mono ?_
  rintro e w4 ⟨rfl, to4, hT⟩
  have hT4 := hT
  have hh1 := fun x => has_putI (D := DataW.map []) ⟨_, rfl⟩ 3 x (.held (content false 0 ⟨#[]⟩))
  have hs1 : Maps.size ((DataW.map [] : DataW Value).put (.int .i64 3) (.held (content false 0 ⟨#[]⟩))) = 1 := rfl
  generalize (DataW.map [] : DataW Value).put (.int .i64 3) (.held (content false 0 ⟨#[]⟩)) = D1 at *
  have b14 := b13.trans (to4.below htm2.1 htm2.2 b13.size)
  clear to4 b13
  go_wp2_with fail
  refine (al_some ex_a2 (by decide) (by decide) (by omega) _ hT).mono ?_
  rintro e w5 ⟨rfl, to5, hT⟩
  have hT1 := hT4
  have b15 := b14.trans (to5.below htm2.1 htm2.2 b14.size)
  clear to5 b14
  go_wp2_with fail
  refine (al_none ex_a3 (by decide) (by decide) (by omega) _ hT).mono ?_
  rintro e w6 ⟨rfl, to6, hT⟩
  have b16 := b15.trans (to6.below htm2.1 htm2.2 b15.size)
  have im1 := hT1.map.isMap
  have hh2 := fun x => has_putI im1 5 x (.held (content false 0 ⟨#[]⟩))
  have hs2 : Maps.size (D1.put (.int .i64 5) (.held (content false 0 ⟨#[]⟩))) = 2 := by
    rw [Maps.size_put (hT1.map.tidy keyedI), hh1, hs1]; rfl
  generalize D1.put (.int .i64 5) (.held (content false 0 ⟨#[]⟩)) = D2 at *
  clear to6 b15
  have h23 : Maps.has D2 (.int .i64 3) = true := by rw [hh2, hh1]; rfl
  go_wp2_with fail
  refine (tfresh_any t m f 6 _ _ _ _ 3 (by decide) _ hT).mono ?_
  rw [h23]
  rintro e w7 ⟨rfl, b7⟩
  have b17 := b16.trans (b7.mono b16.size)
  have hT := hT.below b7
  clear b7 b16
  go_wp2_with fail
  refine (tdrop_yes t m f 6 _ _ _ _ 3 (by decide) (by decide) h23 _ hT).mono ?_
  rw [ex_u]
  have hT7 := hT
  rintro e w8 ⟨rfl, to8, hT⟩
  have hT8 := hT
  have hh3 := fun x => has_delI D2 3 x
  obtain ⟨D3, hd3⟩ : ∃ D3, D2.del (.int .i64 3) = D3 := ⟨_, rfl⟩
  rw [hd3] at hT hT8 hh3
  have b18 := b17.trans (to8.below htm2.1 htm2.2 b17.size)
  clear to8 b17
  go_wp2_with fail
  refine (al_some ex_a4 (by decide) (by decide) (by omega) _ hT).mono ?_
  rintro e w9 ⟨rfl, to9, hT⟩
  have im3 := hT8.map.isMap
  have hh4 := fun x => has_putI im3 3 x (.held (content false 0 ⟨#[]⟩))
  have hs4 : Maps.size (D3.put (.int .i64 3) (.held (content false 0 ⟨#[]⟩))) = 2 := by
    rw [Maps.size_put (hT8.map.tidy keyedI), hh3]
    have q3 := Maps.size_del (k := .int .i64 3) (hT7.map.tidy keyedI)
    rw [h23] at q3
    rw [hd3, hs2] at q3
    simp at q3
    simp [q3]
  generalize D3.put (.int .i64 3) (.held (content false 0 ⟨#[]⟩)) = D4 at *
  have b19 := b18.trans (to9.below htm2.1 htm2.2 b18.size)
  clear to9 b18
  have h43 : Maps.has D4 (.int .i64 3) = true := by rw [hh4]; rfl
  have h44 : Maps.has D4 (.int .i64 4) = false := by rw [hh4, hh3, hh2, hh1]; rfl
  go_wp2_with fail
  refine (tpages_any t m f 6 _ _ _ _ _ hT).mono ?_
  rintro e w' ⟨rfl, hw⟩; replace hw := hw.symm; subst hw
  go_wp2_with fail
  refine (tfree_any t m f 6 _ _ _ _ _ hT (by decide)).mono ?_
  intro e w10 he
  obtain ⟨A1, c1, rfl, _, r1, b10⟩ := he.open_
  clear he
  have hT := hT.below b10
  have b110 := b19.trans (b10.mono b19.size)
  clear b10 b19
  go_wp2_with fail
  refine (HT t m f 6 _ _ _ _ _ (by decide) hT).mono ?_
  intro e w11 he
  obtain ⟨A2, c2, rfl, b11⟩ := he
  rw [hs4]
  have hT := hT.below b11
  have b111 := b110.trans (b11.mono b110.size)
  clear b11 b110
  go_wp2_with fail
  refine (tput_no t m f 6 _ _ _ _ 4 1 ⟨#[]⟩ (by decide) h44 _ hT).mono ?_
  rintro e w12 ⟨rfl, to12, hT⟩
  have b112 := b111.trans (to12.below htm2.1 htm2.2 b111.size)
  clear to12 b111
  go_wp2_with fail
  refine (tput_yes t m f 6 _ _ _ _ 3 1 ⟨#[120]⟩ (by decide) (by decide) h43 (by decide) _ hT).mono ?_
  rintro e w13 ⟨rfl, to13, hT⟩
  have b113 := b112.trans (to13.below htm2.1 htm2.2 b112.size)
  go_wp2
  go_ret
  exact ⟨rfl, b113⟩
end Go.Proofs.YtlgbcogdogpihaaGreatDoor
