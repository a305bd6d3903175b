/- The walk of alloc's Get. -/
import Derived.Test.YtlgbcogdogpihaaGreatDoorQTxn3
import Derived.Test.YtlgbcogdogpihaaGreatDoorQGj
namespace Go.Proofs.YtlgbcogdogpihaaGreatDoor
open Go.RowKit Go.Shelf
set_option maxRecDepth 100000 in
set_option maxHeartbeats 800000 in
theorem tget_fresh (t m f n k : Nat) (free : List Run) (pages : Int) (D : DataW Value) (id q kind : Int) (s : ByteArray) (hid : (Lit.int .i64 id).wf = true) (hh : Maps.has D (.int .i64 id) = true) (hd : ∀ z, D.atKey (.int .i64 id) z = .held (content true q s)) (w : World) (h : Txn w t m f n free pages k D) :
    Calls Tryz.prog 31 #[.pointer (some ⟨t, 0, none⟩), .int .i64 id, .int .u8 kind] w fun e w' => e = .returned (if q = kind then .tuple #[.string s, .int .i64 0] else .tuple #[.string ⟨#[]⟩, .int .i64 3]) ∧ Below w.heap.size w w' := by
  obtain ⟨_, ⟨v, h2, h3⟩, h4⟩ := h
  have hlt := h2.lt
  have hc := h2.cell 3
  obtain ⟨u, ps, hrun, hu⟩ := h4.look_ok keyedI Tryz.underlying115 (Tryz.zeroValue122 w) (heldR_mk _ _ _) (keyI hid)
  rw [hd, hh] at *
  obtain ⟨b, q', s', rfl, hz⟩ := heldR_inv hu
  have hz := (Prod.mk.inj hz).1
  injection hz with hz
  rw [← hz] at hrun
  unfold content at hrun
  clear hu hz h4 hd hh
  by_cases e : q = kind
  · subst e
    rw [if_pos rfl]
    go_enter Tryz.func31, Tryz.ntmps31
    go_wp2
    go_ret2
    exact ⟨rfl, (Below.refl _ w).alloc (Nat.le_refl _) _⟩
  · rw [if_neg e]
    have hq : (q != kind) = true := by simpa using e
    go_enter Tryz.func31, Tryz.ntmps31
    go_wp2
    go_ret2
    exact ⟨rfl, (Below.refl _ w).alloc (Nat.le_refl _) _⟩
set_option maxRecDepth 100000 in
set_option maxHeartbeats 800000 in
theorem tget_file {B f d kk : Nat} {Dk : Dk} (t m n k : Nat) (free : List Run) (pages : Int) (D : DataW Value) (id : Int) (kind : Nat) (hid : (Lit.int .i64 id).wf = true) (hh : Maps.has D (.int .i64 id) = false) (h2i : 2 ≤ id) (hip : id < pages) (hno : Rp.has free id = false) (hl : free.length ≤ 80000) (w : World) (h : Txn w t m f n free pages k D)
    (hF : FAt w B f d kk Dk) (hFi : Fine Dk) (hT : HT w) (hB0 : 0 < B) (hB : B ≤ w.heap.size) (o : Option (Nat × Bs)) (ho : noPage Dk.sure.length id = false → Dk.down = false → PageIs Dk id o) :
    Calls Tryz.prog 31 #[.pointer (some ⟨t, 0, none⟩), .int .i64 id, .int .u8 kind] w (FREnd B f d kk (frB Dk.sure.length Dk.down id kind o) (Dk.readD id) w) := by
  have hrd := fun W (h1 : FAt W B f d kk Dk) (h2 : HT W) (h3 : B ≤ W.heap.size) => fread_any h1 hFi h2 hB0 h3 id kind o ho
  have hT' := h
  obtain ⟨_, ⟨v, h2, h3⟩, h4⟩ := h
  obtain ⟨A, c, rfl⟩ := h3.form
  have hlt := h2.lt
  have hc := h2.cell 3
  obtain ⟨u, ps, hrun, hu⟩ := h4.look_ok keyedI Tryz.underlying115 (Tryz.zeroValue122 w) (heldR_mk _ _ _) (keyI hid)
  rw [hh] at hrun
  obtain ⟨b, q', s', rfl, hz⟩ := heldR_inv hu
  unfold content at hrun
  have hb0 : Below w.heap.size w (w.alloc (.cells #[.bool b, .int .u8 q', .string s'] 122)) := (Below.refl _ w).alloc (Nat.le_refl _) _
  have hc0 := h2.cell 0
  have hc1 := h2.cell 1
  have hc2 := h2.cell 2
  have hhas := fun W (h : RS W W.heap.size A free) => has_any A c free id W h (by omega)
  rw [hno] at hhas
  have hq1 : decide (id < 2) = false := decide_eq_false (by omega)
  have hq2 : decide (pages ≤ id) = false := decide_eq_false (by omega)
  have hrs := h3.rs
  unfold FREnd str at *
  generalize frB Dk.sure.length Dk.down id kind o = r at *
  generalize Dk.readD id = D2 at *
  have HHAS := Lib.hid hhas
  have HRD := Lib.hid hrd
  clear hhas hrd ho hu hz hno hT' h3 h4
  go_enter Tryz.func31, Tryz.ntmps31
  go_wp2_with fail
  refine Calls.mono (HHAS.out _ ((hrs.below hb0).more hb0.size)) ?_
  rintro e w1 ⟨rfl, hb1⟩
  have hb01 := hb0.trans (hb1.mono hb0.size)
  have h2' := h2.below hb01 hlt
  have hlt' := h2'.lt
  have hc0' := h2'.cell 0
  go_wp2_with fail
  refine Calls.mono (HRD.out _ (hF.keep hb01) (hT.below (hb01.mono hB) hB0) (Nat.le_trans hB hb01.size)) ?_
  rintro e w2 ⟨rfl, g1, g2, g3, g4, g5⟩
  have hend : FAt w2 B f d kk D2 ∧ Below B w w2 ∧ Kept w w2 ∧ Oth_ w w2 ∧ w2.cell? ⟨d, 1, none⟩ = w.cell? ⟨d, 1, none⟩ := ⟨g1, (hb01.mono hB).trans g2, (Kept.below hb01).trans g3, (Oth_.below hb01).trans g4, g5.trans (hb01.cell hF.disk.dlt)⟩
  have HEND := Lib.hid hend
  clear hend g1 g2 g3 g4 g5
  go_wp2
  go_ret2
  exact ⟨rfl, HEND.out⟩
end Go.Proofs.YtlgbcogdogpihaaGreatDoor
