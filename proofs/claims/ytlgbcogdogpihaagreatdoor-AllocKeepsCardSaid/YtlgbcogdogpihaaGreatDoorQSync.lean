/- The walks of disk's done, settle, Sync. -/
import Derived.BigRegion
import Derived.Test.YtlgbcogdogpihaaGreatDoorQGj
namespace Go.Proofs.YtlgbcogdogpihaaGreatDoor
open Go.RowKit Go.Shelf
theorem extract_all (t : Bs) (h : t.length = 256) : (⟨t.toArray⟩ : ByteArray).extract 0 256 = ⟨t.toArray⟩ := by
  apply ByteArray.ext
  rw [ByteArray.data_extract]
  apply Array.toList_inj.1
  simp
  exact List.take_of_length_le (by omega)
theorem str_nil (t : Bs) : (⟨t.toArray⟩ : ByteArray) ++ ⟨#[]⟩ = ⟨t.toArray⟩ := by
  apply ByteArray.ext
  simp
set_option maxRecDepth 100000 in
set_option maxHeartbeats 1000000 in
theorem done_any {w : World} {d s n i : Nat} (rest : List Value) (hd : Blk w d 84 (.slice (some ⟨s, 0, none⟩) n n :: rest).toArray) {cs : Array Value} (hs : Blk w s 9 cs) (hi : i < n) {t u : Bs} (ht : t.length = 256) (hu : u.length = 256) (hc : cs[i]? = some (str u)) :
    Calls Tryz.prog 109 #[.pointer (some ⟨d, 0, none⟩), .agg #[.int .i64 i, str t], .int .i64 256] w fun e w' => (∃ v, e = .returned v) ∧ w' = ((w.alloc (.cells #[.int .i64 i, str t] 160)).setCell ⟨s, i, none⟩ (str t)).drew := by
  have h0 := hd.cell 0
  have hsi := (hs.cell i).trans hc
  have hsf := hs.frozen i
  have hdl := hd.lt
  have hsl := hs.lt
  have x1 := extract_all t ht
  have x3 := str_nil t
  have z1 : (⟨t.toArray⟩ : ByteArray).size = 256 := by simpa [ByteArray.size] using ht
  have z2 : (⟨u.toArray⟩ : ByteArray).size = 256 := by simpa [ByteArray.size] using hu
  unfold str at *
  go_enter Tryz.func109, Tryz.ntmps109
  go_wp2
  have hb := Blk.new w 160 #[.int .i64 (i : Int), .string ⟨t.toArray⟩]
  have k0 := hb.cell 0
  have k1 := hb.cell 1
  have h0a := (hd.alloc (.cells #[.int .i64 (i : Int), .string ⟨t.toArray⟩] 160)).cell 0
  have hsa := (hs.alloc (.cells #[.int .i64 (i : Int), .string ⟨t.toArray⟩] 160)).cell i
  rw [hc] at hsa
  have hfa := (hs.alloc (.cells #[.int .i64 (i : Int), .string ⟨t.toArray⟩] 160)).frozen i
  generalize hwa : w.alloc (.cells #[.int .i64 (i : Int), .string ⟨t.toArray⟩] 160) = wa at *
  have HWA := Lib.hid hwa
  clear hwa
  generalize w.heap.size = g at *
  clear hb hd hs hsi hsf
  simp at k0 k1 h0a
  go_region
  all_goals (go_end0; exact ⟨⟨_, rfl⟩, by rw [HWA.out]⟩)
theorem fit_clear {H : Type} {P : Program} {k : TypeId} {R : Value → Option (DataW H × List MemPlace)} {w : World} {m : Nat} {c : Nat} (h : w.heap[m]? = some (.map #[] c)) : w.ownsMap P k R m 0 (.map []) :=
  ⟨#[], c, h, ⟨by simp, MapKept.stamped_empty c, by simp⟩, Nat.le_refl _, rfl⟩
set_option maxRecDepth 100000 in
theorem settle_any {w : World} {d s n m : Nat} {pv : Value} {v4 v5 v6 v7 : Value} (hd : Blk w d 84 #[.slice (some ⟨s, 0, none⟩) n n, .map (some m), pv, v4, v5, v6, v7]) {es : Array MapEntry} {c : Nat} (hm : w.heap[m]? = some (.map es c)) :
    Calls Tryz.prog 110 #[.pointer (some ⟨d, 0, none⟩)] w fun e w' => (∃ v, e = .returned v) ∧ w' = (w.setCell ⟨d, 2, none⟩ (.slice none 0 0)).putObj m (.map #[] c) := by
  have hne : d ≠ m := fun e => by subst e; unfold Blk at hd; rw [hd] at hm; cases hm
  have h1 := (hd.set_ 2 (.slice none 0 0)).cell 1
  have h2 := hd.cell 2
  have f2 := hd.frozen 2
  have hlt := hd.lt
  have hm2 : (w.setCell ⟨d, 2, none⟩ (.slice none 0 0)).heap[m]? = some (.map es c) := (Below.heap_setCell w ⟨d, 2, none⟩ (.slice none 0 0) m (Ne.symm hne)).trans hm
  have hcl : ∀ ty, (Builtin.clear_ #[76] ty #[.map (some m)]).run Tryz.prog (w.setCell ⟨d, 2, none⟩ (.slice none 0 0)) = .ok (.tuple #[]) ((w.setCell ⟨d, 2, none⟩ (.slice none 0 0)).putObj m (.map #[] c)) := fun ty => by
    simp [Builtin.clear_, run_underlying Tryz.underlying76, MapKept.run_getObj_map hm2, MapKept.run_setObj_map _ hm2, Result.andThen, World.putObj]
  clear hd hm hm2
  go_enter Tryz.func110, Tryz.ntmps110
  go_wp2
  go_end0
  exact ⟨⟨_, rfl⟩, rfl⟩
/-- what is sure when what was pending is done -/
def doneL (sure : List Bs) (pend : List (Int × Bs)) : List Bs := pend.foldl (fun s x => s.set x.1.toNat x.2) sure
theorem doneL_len (pend : List (Int × Bs)) : ∀ sure, (doneL sure pend).length = sure.length := by
  induction pend with
  | nil => intro s; rfl
  | cons x r ih => intro s; show (doneL (s.set x.1.toNat x.2) r).length = _; rw [ih, List.length_set]
theorem doneL_succ (sure : List Bs) (pend : List (Int × Bs)) (j : Nat) (hj : j < pend.length) : doneL sure (pend.take (j + 1)) = (doneL sure (pend.take j)).set pend[j].1.toNat pend[j].2 := by
  unfold doneL
  rw [List.take_succ_eq_append_getElem hj, List.foldl_append]
  rfl
/-- a disk whose texts are sectors -/
structure WellD (D : Dk) : Prop where
  sure : ∀ x ∈ D.sure, x.length = 256
  pend : ∀ x ∈ D.pend, x.2.length = 256 ∧ 0 ≤ x.1 ∧ x.1 < (D.sure.length : Int)
theorem doneL_all {n : Nat} : ∀ (pend : List (Int × Bs)) (sure : List Bs), (∀ x ∈ sure, x.length = 256) → (∀ x ∈ pend, x.2.length = 256 ∧ 0 ≤ x.1 ∧ x.1 < (n : Int)) → ∀ x ∈ doneL sure pend, x.length = 256 := by
  intro pend
  induction pend with
  | nil => intro s hs _ x hx; exact hs x hx
  | cons y r ih =>
    intro s hs hp
    refine ih _ (fun x hx => ?_) (fun x hx => hp x (List.mem_cons_of_mem _ hx))
    rcases List.mem_or_eq_of_mem_set hx with h | rfl
    · exact hs x h
    · exact (hp y (List.mem_cons_self ..)).1
def Dk.synced (D : Dk) : Dk := { D with sure := doneL D.sure D.pend, now := fun _ => none, pend := [] }
/-- only a disk's own blocks have turned -/
structure Touch3 (d s m : Nat) (w w' : World) : Prop where
  os : w'.os = w.os
  tape : w'.tape = w.tape
  output : w'.output = w.output
  size : w.heap.size ≤ w'.heap.size
  block : ∀ k, k < w.heap.size → k ≠ d → k ≠ s → k ≠ m → w'.heap[k]? = w.heap[k]?
set_option maxRecDepth 100000 in
set_option maxHeartbeats 1000000 in
theorem sync_any {w : World} {B d k : Nat} {D : Dk} {s m : Nat} {pv : Value} {Dm : DataW Value} (h : DAt w B d k D s m pv Dm) (hW : WellD D) (hdn : D.down = false) (hp : D.pend.length ≤ 1000000) :
    Calls Tryz.prog 69 #[.pointer (some ⟨d, 0, none⟩)] w fun e w' => e = .returned (.int .i64 0) ∧ DAt w' B d 0 D.synced s m (.slice none 0 0) (.map []) ∧ Touch3 d s m w w' := by
  obtain ⟨A, c, rfl⟩ := h.pend.form
  have hLS := h.pend.ls
  have h4 := h.self.cell 4
  have h2 := h.self.cell 2
  simp only [dkCells, hdn] at h4 h2
  have hdl := h.self.lt
  have HH := Lib.hid h
  have hds : d ≠ s := h.self.ne_ h.sure (by decide)
  have hws : ∀ j (hj : j < D.pend.length), D.pend[j].2.length = 256 ∧ 0 ≤ D.pend[j].1 ∧ D.pend[j].1 < (D.sure.length : Int) := fun j hj => hW.pend _ (List.getElem_mem hj)
  have hall : ∀ j, ∀ x ∈ doneL D.sure (D.pend.take j), x.length = 256 := fun j => doneL_all (n := D.sure.length) _ _ hW.sure (fun x hx => hW.pend x (List.mem_of_mem_take hx))
  have HALL := Lib.hid hall
  have HWS := Lib.hid hws
  clear hws hall hW
  go_enter Tryz.func69, Tryz.ntmps69
  go_wp2
  go_loopw [14] (fun i wr => ∃ j : Nat, j ≤ D.pend.length ∧ i = .int .i64 j ∧ Blk wr s 9 ((doneL D.sure (D.pend.take j)).map str).toArray ∧ w.grownBy wr (some s)) (fun i _ => D.pend.length - (intOf i).toNat)
  case atStart => exact ⟨0, by omega, rfl, h.sure, World.grownBy.refl w _⟩
  case round =>
    obtain ⟨j, hj, rfl, hs, hg⟩ := hrel
    have hself := h.self.grown hg (fun e => hds (Option.some.inj e))
    by_cases hlt : j < D.pend.length
    · have hpe : LS penE wr wr.heap.size A D.pend := (LO.keep h.pend hg (fun r e => by cases e; exact ⟨_, h.sure, fun cs e => by injection e with _ e; cases e⟩)).ls
      obtain ⟨b2, o2, rfl, hb2, hc⟩ := hpe.at_ hlt
      have g0 := hc 0 (by decide)
      have g1 := hc 1 (by decide)
      obtain ⟨q1, q2, q3⟩ := HWS.out j hlt
      have hsu := doneL_succ D.sure D.pend j hlt
      have hlen := doneL_len (D.pend.take j) D.sure
      have hal := HALL.out j
      rw [show o2 + j * penE.size + 0 = o2 + j * 2 from rfl] at g0
      rw [show o2 + j * penE.size + 1 = o2 + j * 2 + 1 from rfl] at g1
      generalize D.pend[j] = y at *
      obtain ⟨q, t⟩ := y
      simp only at q1 q2 q3
      obtain ⟨q, rfl⟩ := Int.eq_ofNat_of_zero_le q2
      have g0' : wr.cell? ⟨b2, o2 + j * 2, none⟩ = some (.int .i64 (q : Int)) := g0
      have g1' : wr.cell? ⟨b2, o2 + j * 2 + 1, none⟩ = some (str t) := g1
      clear g0 g1
      generalize hL : doneL D.sure (D.pend.take j) = L at *
      have hql : q < L.length := by omega
      have hcu : (L.map str).toArray[q]? = some (str L[q]) := by simp [hql]
      have hul : L[q].length = 256 := hal _ (List.getElem_mem hql)
      have hself1 := hself.alloc (.cells #[.int .i64 (q : Int), str t] 160)
      have hs1 := hs.alloc (.cells #[.int .i64 (q : Int), str t] 160)
      have hdo := done_any (n := D.sure.length) _ hself1 hs1 (by omega) q1 hul hcu
      have HSU := Lib.hid hsu
      have HDO := Lib.hid hdo
      clear hdo hsu hcu hal hself1 hs1
      generalize hcs : (L.map str).toArray = cs at *
      unfold str at g1' HDO
      go_wp2_with fail
      refine Calls.mono HDO.out ?_
      rintro e w1 ⟨⟨v, rfl⟩, rfl⟩
      have hgr := only_drew (only_setCell (p := ⟨s, q, none⟩) (only_alloc (only_alloc hg (.cells #[.int .i64 (q : Int), .string ⟨t.toArray⟩] 160)) (.cells #[.int .i64 (q : Int), .string ⟨t.toArray⟩] 160)) (.inl rfl) (.string ⟨t.toArray⟩))
      have hbs := ((hs.alloc (.cells #[.int .i64 (q : Int), .string ⟨t.toArray⟩] 160)).alloc (.cells #[.int .i64 (q : Int), .string ⟨t.toArray⟩] 160)).set_ q (.string ⟨t.toArray⟩)
      replace hbs := hbs.drew
      have hce : cs.setIfInBounds q (.string ⟨t.toArray⟩) = ((doneL D.sure (D.pend.take (j + 1))).map str).toArray := by
        rw [HSU.out, ← hcs]
        simp [List.map_set, str]
      rw [hce] at hbs
      generalize ((((wr.alloc (.cells #[.int .i64 (q : Int), .string ⟨t.toArray⟩] 160)).alloc (.cells #[.int .i64 (q : Int), .string ⟨t.toArray⟩] 160)).setCell ⟨s, q, none⟩ (.string ⟨t.toArray⟩)).drew) = w2 at *
      go_wp2
      go_roundw
      case rel => exact ⟨j + 1, by omega, by go_num, hbs, hgr⟩
      case measure => simp [intOf]; omega
    · obtain rfl : j = D.pend.length := by omega
      rw [List.take_of_length_le (Nat.le_refl _)] at hs
      obtain ⟨es, cl, hm0, _⟩ := HH.out.map
      have hms := HH.out.mne HH.out.sure
      have hmd := HH.out.mne HH.out.self
      have hml := (Array.getElem?_eq_some_iff.1 hm0).1
      have hm1 : wr.heap[m]? = some (.map es cl) := (hg.block m hml (fun e => hms (Option.some.inj e))).trans hm0
      have hse := settle_any (w := wr) (d := d) (s := s) (n := D.sure.length) (m := m) (pv := .slice A D.pend.length c) (v4 := .int .i64 D.left) (v5 := .bool D.down) (v6 := .int .i64 D.reads) (v7 := .int .i64 D.writes) hself hm1
      have hfin : DAt ((wr.setCell ⟨d, 2, none⟩ (.slice none 0 0)).putObj m (.map #[] cl)) B d 0 D.synced s m (.slice none 0 0) (.map []) ∧ Touch3 d s m w ((wr.setCell ⟨d, 2, none⟩ (.slice none 0 0)).putObj m (.map #[] cl)) := by
        have x1 := hself.set_ 2 (.slice none 0 0)
        have x2 : Blk (wr.setCell ⟨d, 2, none⟩ (.slice none 0 0)) s 9 ((doneL D.sure D.pend).map str).toArray := hs.far (p := ⟨d, 2, none⟩) (Ne.symm hds) _
        have x3 : (wr.setCell ⟨d, 2, none⟩ (.slice none 0 0)).heap[m]? = some (.map es cl) := (Below.heap_setCell wr ⟨d, 2, none⟩ (.slice none 0 0) m hmd).trans hm1
        have x5 : ∀ i, i < w.heap.size → i ≠ d → i ≠ s → (wr.setCell ⟨d, 2, none⟩ (.slice none 0 0)).heap[i]? = w.heap[i]? := fun i hi h1 h2 => (Below.heap_setCell wr ⟨d, 2, none⟩ (.slice none 0 0) i h1).trans (hg.block i hi (fun e => h2 (Option.some.inj e)))
        have x6 : (wr.setCell ⟨d, 2, none⟩ (.slice none 0 0)).heap.size = wr.heap.size := by simp [World.setCell]
        have x7 : (wr.setCell ⟨d, 2, none⟩ (.slice none 0 0)).os = w.os ∧ (wr.setCell ⟨d, 2, none⟩ (.slice none 0 0)).tape = w.tape ∧ (wr.setCell ⟨d, 2, none⟩ (.slice none 0 0)).output = w.output := ⟨hg.os, hg.tape, hg.output⟩
        generalize wr.setCell ⟨d, 2, none⟩ (.slice none 0 0) = W at *
        have y1 : ∀ {g : Nat} {ty : TypeId} {cs : Array Value}, Blk W g ty cs → Blk (W.putObj m (.map #[] cl)) g ty cs := fun {g ty cs} hb => by
          have hne : m ≠ g := fun e => by subst e; unfold Blk at hb; rw [x3] at hb; cases hb
          exact (World.putObj_heap_other (Ne.symm hne)).trans hb
        have y2 : (W.putObj m (.map #[] cl)).heap[m]? = some (.map #[] cl) := World.putObj_heap_same (Array.getElem?_eq_some_iff.1 x3).1
        refine ⟨⟨HH.out.le, ?_, y1 x2, fit_clear y2, fun i z => ⟨by simp [Maps.has, Dk.synced], by simp [DataW.atKey, Dk.synced]⟩, LO.nil_ _ _⟩, x7.1, x7.2.1, x7.2.2, by have := hg.size; simp [World.putObj]; omega, fun i hi h1 h2 h3 => (World.putObj_heap_other h3).trans (x5 i hi h1 h2)⟩
        have := y1 x1
        have hlen : (doneL D.sure D.pend).length = D.sure.length := doneL_len _ _
        unfold dkCells Dk.synced
        simp only [hlen]
        exact this
      have HFIN := Lib.hid hfin
      have HSE := Lib.hid hse
      clear hfin hse
      go_wp2_with fail
      refine Calls.mono HSE.out ?_
      rintro e w1 ⟨⟨v, rfl⟩, rfl⟩
      go_wp2
      go_ret
      exact ⟨rfl, HFIN.out⟩
end Go.Proofs.YtlgbcogdogpihaaGreatDoor
