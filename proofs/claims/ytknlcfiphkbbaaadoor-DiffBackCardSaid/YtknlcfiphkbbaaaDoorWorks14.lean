/- The walk of rootstocklaw14.works: the document's example of chapter 14. -/
import Derived.Test.YtknlcfiphkbbaaaDoorLaw14a
import Derived.Test.YtknlcfiphkbbaaaDoorLists
import Derived.Test.YtknlcfiphkbbaaaDoorRLists
import Derived.Test.YtknlcfiphkbbaaaDoorRef11
import Derived.Test.YtknlcfiphkbbaaaDoorBackP
namespace Go.Proofs.YtknlcfiphkbbaaaDoor
open Go.RowKit
def exA : List Ent := [(⟨#[97]⟩, ⟨#[49]⟩), (⟨#[98]⟩, ⟨#[50]⟩)]
def exB : List Ent := [(⟨#[98]⟩, ⟨#[51]⟩), (⟨#[99]⟩, ⟨#[52]⟩)]
def exD : List Dl := [⟨⟨#[97]⟩, ⟨#[49]⟩, ⟨#[]⟩, true, false⟩, ⟨⟨#[98]⟩, ⟨#[50]⟩, ⟨#[51]⟩, true, true⟩, ⟨⟨#[99]⟩, ⟨#[]⟩, ⟨#[52]⟩, false, true⟩]
theorem right_exA : En.right exA = true := by kernel_rfl
theorem right_exB : En.right exB = true := by kernel_rfl
theorem told_ex : told exA exB = exD := by kernel_rfl
theorem ap_ex : En.ap exA exD = exB := by
  have h := En.ap_there right_exA right_exB
  have e : En.mergeD exA exB = exD := by have h := told_ex; unfold told at h; rwa [right_exA, right_exB] at h
  rwa [e] at h
theorem ls_new {α : Type} (E : Enc α) (W : World) (ty : TypeId) (l : List α) (B : Nat) (hB : W.heap.size < B) : LS E (W.alloc (.cells (E.cells l).toArray ty)) B (some ⟨W.heap.size, 0, none⟩) l := by
  refine ⟨by rw [Enc.cells_length], fun _ => ⟨_, rfl, by simpa using hB, fun j u hu => ?_⟩⟩
  rw [Addr.add_lit, Nat.zero_add, (Blk.new W ty _).cell j]
  simpa using hu
set_option maxRecDepth 100000 in
set_option maxHeartbeats 1000000 in
theorem works14_any (w : World) : Calls Tryd.prog 5 #[] w fun e w' => e = .returned (.bool true) ∧ Below w.heap.size w w' := by
  have hA := fun W B hB => ls_new entE W 39 exA B hB
  have hB := fun W B hB => ls_new entE W 39 exB B hB
  have hL := fun A1 A2 W h1 h2 => lists_any A1 A2 2 2 exA exB W h1 h2 (by decide) (by decide)
  have hAp := fun A1 A2 c W h1 h2 => apply_any A1 2 exA A2 c exD W h1 h2 (by decide) (by decide)
  have hS := fun A1 A2 c W h1 h2 => rsame_yes A1 A2 exB c 2 W h1 h2 (by decide)
  rw [told_ex] at hL
  rw [ap_ex] at hAp
  have HA := Lib.hid hA
  have HB := Lib.hid hB
  have HL := Lib.hid hL
  have HAp := Lib.hid hAp
  have HS := Lib.hid hS
  clear hA hB hL hAp hS
  go_enter Tryd.func5, Tryd.ntmps5
  have hA0 : LS entE ((w.alloc (.cells (entE.cells exA).toArray 39)).alloc (.cells (entE.cells exB).toArray 39)) ((w.alloc (.cells (entE.cells exA).toArray 39)).alloc (.cells (entE.cells exB).toArray 39)).heap.size (some ⟨w.heap.size, 0, none⟩) exA :=
    LS.more (Reads.alloc (HA.out w (w.heap.size + 1) (by omega)) (by simp) _) (by simp)
  have hB0 : LS entE ((w.alloc (.cells (entE.cells exA).toArray 39)).alloc (.cells (entE.cells exB).toArray 39)) ((w.alloc (.cells (entE.cells exA).toArray 39)).alloc (.cells (entE.cells exB).toArray 39)).heap.size (some ⟨w.heap.size + 1, 0, none⟩) exB := by
    have h := HB.out (w.alloc (.cells (entE.cells exA).toArray 39)) (w.heap.size + 2) (by simp)
    simp only [World.size_alloc] at h ⊢
    exact h
  have hbw0 : Below w.heap.size w ((w.alloc (.cells (entE.cells exA).toArray 39)).alloc (.cells (entE.cells exB).toArray 39)) := ((Below.refl _ _).alloc (Nat.le_refl _) _).alloc (by simp) _
  go_wp2_with fail
  refine Calls.mono (HL.out _ _ _ hA0 hB0) ?_
  intro e w2 h2
  obtain ⟨A2, c2, rfl, ho2, hs2, hb2⟩ := h2.open_
  have hA2 := hA0.up hb2
  have hB2 := hB0.up hb2
  have hbw2 := hbw0.trans (hb2.mono hbw0.size)
  clear hA0 hB0 hbw0
  obtain ⟨b, o, rfl, hq, g00, g01, g02, g03, g04⟩ := hs2.dl (k := 0) (by decide)
  obtain ⟨b', o', hx, hq', g10, g11, g12, g13, g14⟩ := hs2.dl (k := 1) (by decide)
  obtain ⟨b'', o'', hx', hq'', g20, g21, g22, g23, g24⟩ := hs2.dl (k := 2) (by decide)
  cases hx
  cases hx'
  go_wp2_with fail
  refine Calls.mono (HAp.out _ _ _ _ ⟨hA2, by decide, nofun⟩ hs2) ?_
  rintro e w3 ⟨A3, c3, rfl, hsv, hb3⟩
  have hbw3 := hbw2.trans (hb3.mono hbw2.size)
  have hB3 := hB2.up hb3
  have hs3 := hs2.up hb3
  clear g00 g01 g02 g03 g04 g10 g11 g12 g13 g14 g20 g21 g22 g23 g24
  go_wp2_with fail
  refine Calls.mono (HS.out _ _ _ _ hsv.ls hB3) ?_
  rintro e w4 ⟨rfl, hb4⟩
  have hbw4 := hbw3.trans (hb4.mono hbw3.size)
  have hs4 := hs3.up hb4
  obtain ⟨b1, o1, hx1, hq1, g00, g01, g02, g03, g04⟩ := hs4.dl (k := 0) (by decide)
  obtain ⟨b', o', hx, hq', g10, g11, g12, g13, g14⟩ := hs4.dl (k := 1) (by decide)
  obtain ⟨b'', o'', hx', hq'', g20, g21, g22, g23, g24⟩ := hs4.dl (k := 2) (by decide)
  cases hx
  cases hx'
  cases hx1
  change w4.cell? ⟨b, o, none⟩ = some (.string ⟨#[97]⟩) at g00
  change w4.cell? ⟨b, o + 1, none⟩ = some (.string ⟨#[49]⟩) at g01
  change w4.cell? ⟨b, o + 2, none⟩ = some (.string ⟨#[]⟩) at g02
  change w4.cell? ⟨b, o + 3, none⟩ = some (.bool true) at g03
  change w4.cell? ⟨b, o + 4, none⟩ = some (.bool false) at g04
  change w4.cell? ⟨b, o + 5, none⟩ = some (.string ⟨#[98]⟩) at g10
  change w4.cell? ⟨b, o + 5 + 1, none⟩ = some (.string ⟨#[50]⟩) at g11
  change w4.cell? ⟨b, o + 5 + 2, none⟩ = some (.string ⟨#[51]⟩) at g12
  change w4.cell? ⟨b, o + 5 + 3, none⟩ = some (.bool true) at g13
  change w4.cell? ⟨b, o + 5 + 4, none⟩ = some (.bool true) at g14
  change w4.cell? ⟨b, o + 10, none⟩ = some (.string ⟨#[99]⟩) at g20
  change w4.cell? ⟨b, o + 10 + 1, none⟩ = some (.string ⟨#[]⟩) at g21
  change w4.cell? ⟨b, o + 10 + 2, none⟩ = some (.string ⟨#[52]⟩) at g22
  change w4.cell? ⟨b, o + 10 + 3, none⟩ = some (.bool false) at g23
  change w4.cell? ⟨b, o + 10 + 4, none⟩ = some (.bool true) at g24
  simp only [show exD.length = 3 from rfl]
  go_wp2
  go_ret
  exact ⟨rfl, hbw4⟩
end Go.Proofs.YtknlcfiphkbbaaaDoor
