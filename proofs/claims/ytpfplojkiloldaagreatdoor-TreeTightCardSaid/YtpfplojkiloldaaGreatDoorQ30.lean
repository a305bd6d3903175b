/- The walk of alloc's Flush. A disk whose power does not go, and what its pages are: plain. A new disk, a new file. What Flush makes of a disk's pages: plain. A change's map and the row of the pages taken: what AllocKeeps's rounds do. A change of fresh pages alone, as the tree sees it: what is kept, Fresh. The walks of cowtree's load, save. The walk of cowtree's save. -/
import Derived.Deep.RegionWith
import Derived.Test.YtpfplojkiloldaaGreatDoorQ01
import Derived.Test.YtpfplojkiloldaaGreatDoorQ09
import Derived.Test.YtpfplojkiloldaaGreatDoorQ23
import Derived.Test.YtpfplojkiloldaaGreatDoorQ25
import Derived.Test.YtpfplojkiloldaaGreatDoorQ29
namespace Go.Proofs.YtpfplojkiloldaaGreatDoor
open Go.RowKit Go.Shelf Go.Maps
section
variable {w w' : World} {B f d k kf t m m0 n : Nat} {Dd : Dk} {free : List Run} {pages : Int} {D : DataW Value}
theorem FAt.fileOf (h : FAt w B f d kf Dd) : FileOf w f Dd.sure.length := ⟨d, h.self, h.disk.of_⟩
theorem own_keptR {base : Nat} {v : Value} {l : List Run} (h : Own w base v l) (hk : Kept w w') : Own w' base v l := by
  rcases h with ⟨h3, h4 | ⟨g, cap, cur, hv, hb, hh, r⟩⟩
  · exact ⟨h3, .inl h4⟩
  · exact ⟨h3, .inr ⟨g, cap, cur, hv, hb, hk g _ _ hh (by decide) (by decide), r⟩⟩
/-- a change in memory lies as it lay where a file was written -/
theorem Txn.keepW (h : Txn w t m f n free pages k D) (hk : Kept w w') (ho : OthM m0 w w') (hm : m ≠ m0) (hF : FAt w' B f d kf Dd) (hn : Dd.sure.length = n) : Txn w' t m f n free pages k D := by
  obtain ⟨h1, ⟨v, h2, h3⟩, es, c, h4, h5⟩ := h
  exact ⟨hn ▸ hF.fileOf, ⟨v, hk _ _ _ h2 (by decide) (by decide), own_keptR h3 hk⟩, es, c, ho m _ h4 rfl hm, h5⟩
end
/-- pages written one behind the other -/
def flR (D : Dk) (q : Nat) (bd : Int → Bs) (ss : List Int) : Dk := ss.foldl (fun D id => D.fput id q (bd id)) D
theorem flR_succ (D : Dk) (q : Nat) (bd : Int → Bs) (ss : List Int) (j : Nat) (hj : j < ss.length) : flR D q bd (ss.take (j + 1)) = (flR D q bd (ss.take j)).fput ss[j] q (bd ss[j]) := by
  unfold flR
  rw [List.take_succ_eq_append_getElem hj, List.foldl_append]
  rfl
theorem fput_len (D : Dk) (id : Int) (q : Nat) (b : Bs) : (D.fput id q b).sure.length = D.sure.length := by
  unfold Dk.fput Dk.wrote
  split
  · rfl
  · split
    · rfl
    · split
      · rfl
      · split
        · rfl
        · split <;> rfl
theorem flR_len (q : Nat) (bd : Int → Bs) (ss : List Int) : ∀ D : Dk, (flR D q bd ss).sure.length = D.sure.length := by
  induction ss with
  | nil => intro D; rfl
  | cons a r ih => intro D; show (flR (D.fput a q (bd a)) q bd r).sure.length = _; rw [ih, fput_len]
/-- how Flush ends -/
def FlEnd (B f d k : Nat) (s m : Nat) (D' : Dk) (w : World) (e : Ending) (w' : World) : Prop := e = .returned (.int .i64 0) ∧ FAt w' B f d k D' ∧ Below B w w' ∧ (∀ (g : Nat) (t : TypeId) (cs : Array Value), Blk w g t cs → t ≠ 110 → t ≠ 172 → g ≠ s → Blk w' g t cs) ∧ (∀ g es c, g ≠ m → w.heap[g]? = some (.map es c) → w'.heap[g]? = some (.map es c))
set_option maxRecDepth 100000 in
set_option maxHeartbeats 1000000 in
theorem tflush_any {w : World} {B f d kf t m s m0 n k N : Nat} {Dd : Dk} {free : List Run} {pages : Int} {D : DataW Value} (q : Nat) (hq : q < 256) (bd : Int → Bs) (h : Txn w t m f n free pages k D) (hF : FAt w B f d kf Dd) (hn : Dd.sure.length = n)
    (hc0 : w.cell? ⟨d, 0, none⟩ = some (.slice (some ⟨s, 0, none⟩) n n)) (hc1 : w.cell? ⟨d, 1, none⟩ = some (.map (some m0))) (hmm : m ≠ m0)
    (hL : Lim Dd N) (hN : N + 1000 < 1000000) (hk : k ≤ 1000) (hkf : kf + 1000 < maxLen) (hT : HT w) (hB0 : 0 < B) (hB : B ≤ w.heap.size)
    (hD : ∀ x ∈ intKeys D, (Lit.int .i64 x).wf = true ∧ ∀ z, D.atKey (.int .i64 x) z = .held (content true q ⟨(bd x).toArray⟩))
    (hE : ∀ ss : List Int, ss.Perm (intKeys D) → ∀ j (hj : j < ss.length), (flR Dd q bd (ss.take j)).fputE ss[j] (bd ss[j]) = 0)
    (hS : ∀ ss : List Int, ss.Perm (intKeys D) → WellD (flR Dd q bd ss) ∧ (flR Dd q bd ss).down = false) :
    Calls Tryz.prog 38 #[.pointer (some ⟨t, 0, none⟩)] w fun e w' => ∃ ss : List Int, ss.Perm (intKeys D) ∧ FlEnd B f d 0 s m0 (flR Dd q bd ss).synced w e w' := by
  have htk := taken_list t m f n k free pages D w (by omega) h
  have hsz := h.map.size_le
  have HD := Lib.hid hD
  have HE := Lib.hid hE
  have HS := Lib.hid hS
  clear hD hE hS
  go_enter Tryz.func38, Tryz.ntmps38
  go_wp2_with fail
  refine Calls.mono htk ?_
  rintro e w1 ⟨A, c, ss, rfl, hpm, hsl, hss, hb1⟩
  have hT1 := h.below hb1
  have hF1 := hF.keep hb1
  have hM1 := MapStep.below hb1 hF.disk.dlt
  have hbB := hb1.mono hB
  have hw1 := Nat.le_trans hB hb1.size
  have HPM := Lib.hid hpm
  clear hpm
  go_wp2
  go_loopw [10] (fun i wr => ∃ j : Nat, j ≤ ss.length ∧ i = .int .i64 j ∧ FAt wr B f d (kf + j) (flR Dd q bd (ss.take j)) ∧ Lim (flR Dd q bd (ss.take j)) (N + j) ∧ Txn wr t m f n free pages k D ∧ Kept w1 wr ∧ MapStep d w1 wr ∧ Below B w1 wr) (fun i _ => ss.length - (intOf i).toNat)
  case atStart => exact ⟨0, by omega, rfl, hF1, hL, hT1, Kept.refl _, MapStep.refl _ _, Below.refl _ _⟩
  case round =>
    obtain ⟨j, hj, rfl, hFr, hLr, hTr, hKr, hMr, hBr⟩ := hrel
    by_cases hlt : j < ss.length
    · obtain ⟨b2, o2, rfl, hb2, g0⟩ := (hss.kept hKr (by decide) (by decide)).ls.int hlt
      obtain ⟨hwf, hat⟩ := HD.out _ (HPM.out.mem_iff.1 (List.getElem_mem hlt))
      have hfe := HE.out ss HPM.out j hlt
      have hsu := flR_succ Dd q bd ss j hlt
      have HFL := Lib.hid (flR_len q bd (ss.take (j + 1)) Dd)
      have hLf := hLr.fput ss[j] q (bd ss[j])
      rw [← hsu] at hLf
      generalize ss[j] = y at *
      obtain ⟨u, ps, hlook, hu⟩ := hTr.map.lookup keyedI Tryz.underlying122 (Tryz.zeroValue130 wr) (heldR_mk _ _ _) (keyI hwf)
      rw [hat] at hu
      obtain ⟨b', q', s', rfl, hz⟩ := heldR_inv hu
      have hz := (Prod.mk.inj hz).1
      injection hz with hz
      rw [← hz] at hlook
      clear hu hz hat
      have hTr' := hTr
      obtain ⟨_, ⟨vf, h2, _⟩, _⟩ := hTr'
      have hlt2 := h2.lt
      have hc3 := h2.cell 3
      have hcf := h2.cell 0
      unfold content at hlook
      have hbA : Below wr.heap.size wr (wr.alloc (.cells #[.bool true, .int .u8 (q : Int), .string ⟨(bd y).toArray⟩] 130)) := (Below.refl _ wr).alloc (Nat.le_refl _) _
      have hlink := Blk.new wr 130 #[.bool true, .int .u8 (q : Int), .string ⟨(bd y).toArray⟩]
      have hwr := Nat.le_trans hw1 hBr.size
      have hfw := fun W (h1 : FAt W B f d (kf + j) (flR Dd q bd (ss.take j))) (h2 : HT W) (h3 : B ≤ W.heap.size) => fwrite_any2 h1 (hLr.fine (by omega)) (by omega) h2 h3 y q hq (bd y)
      rw [hfe, ← hsu] at hfw
      unfold FWEnd2 str at hfw
      have HFW := Lib.hid hfw
      clear hfw hfe
      have hk0 := (h2.alloc (.cells #[.bool true, .int .u8 (q : Int), .string ⟨(bd y).toArray⟩] 130)).cell 0
      have hk1 := hlink.cell 1
      have hk2 := hlink.cell 2
      have hFa := (hFr.keep hbA).keepF (w' := (wr.alloc (.cells #[.bool true, .int .u8 (q : Int), .string ⟨(bd y).toArray⟩] 130)).drew) ⟨fun _ _ _ h _ => h, fun _ _ _ h => h⟩
      have hTa : HT (wr.alloc (.cells #[.bool true, .int .u8 (q : Int), .string ⟨(bd y).toArray⟩] 130)).drew := (((hT.below hbB hB0).below hBr hB0).below (hbA.mono hwr).drew hB0)
      have hBa : B ≤ (wr.alloc (.cells #[.bool true, .int .u8 (q : Int), .string ⟨(bd y).toArray⟩] 130)).drew.heap.size := by have := hbA.size; exact Nat.le_trans hwr this
      have hTxa := hTr.below hbA
      have hKa := hKr.trans (Kept.below hbA)
      have hMa := hMr.trans (MapStep.below hbA hFr.disk.dlt)
      have hBBa := hBr.trans (hbA.mono hwr)
      generalize flR Dd q bd (ss.take j) = Dj at *
      have hcont := HFW.out _ hFa hTa hBa
      have hKd : Kept w1 (wr.alloc (.cells #[.bool true, .int .u8 (q : Int), .string ⟨(bd y).toArray⟩] 130)).drew := hKa
      have hMd : MapStep d w1 (wr.alloc (.cells #[.bool true, .int .u8 (q : Int), .string ⟨(bd y).toArray⟩] 130)).drew := ⟨hMa.cell, hMa.oth, hMa.row⟩
      have hBd := hBBa.drew
      have hTd : Txn (wr.alloc (.cells #[.bool true, .int .u8 (q : Int), .string ⟨(bd y).toArray⟩] 130)).drew t m f n free pages k D := hTr.below hbA.drew
      have hom1 := hMd.1.trans (hM1.1.trans hc1)
      have hk0d : (wr.alloc (.cells #[.bool true, .int .u8 (q : Int), .string ⟨(bd y).toArray⟩] 130)).drew.cell? ⟨t, 0, none⟩ = some (.pointer (some ⟨f, 0, none⟩)) := hk0
      have hk1d : (wr.alloc (.cells #[.bool true, .int .u8 (q : Int), .string ⟨(bd y).toArray⟩] 130)).drew.cell? ⟨wr.heap.size, 1, none⟩ = some (.int .u8 (q : Int)) := hk1
      have hk2d : (wr.alloc (.cells #[.bool true, .int .u8 (q : Int), .string ⟨(bd y).toArray⟩] 130)).drew.cell? ⟨wr.heap.size, 2, none⟩ = some (.string ⟨(bd y).toArray⟩) := hk2
      go_wp2
      go_region_with (go_at_call 32; refine hcont.mono ?_; rintro e w2 ⟨rfl, gF, gB, gK, gM⟩)
      all_goals go_wp2
      all_goals go_roundw
      all_goals try (simp [intOf]; omega)
      all_goals exact ⟨j + 1, by omega, by go_num, gF, hLf, Txn.keepW (m0 := m0) hTd gK (gM.2 m0 hom1) hmm gF (by rw [HFL.out, hn]), hKd.trans gK, hMd.trans gM, hBd.trans gB⟩
    · obtain rfl : j = ss.length := by omega
      rw [List.take_of_length_le (Nat.le_refl _)] at hFr hLr
      obtain ⟨hW, hdn⟩ := HS.out ss HPM.out
      obtain ⟨s', m', pv, Dm, hDA⟩ := hFr.disk
      have hseq : s' = s := by
        have e1 := hDA.self.cell 0
        have e2 := hMr.row.trans (hM1.row.trans hc0)
        simp only [dkCells] at e1
        rw [e2] at e1
        have e3 : Value.slice (some ⟨s, 0, none⟩) n n = Value.slice (some ⟨s', 0, none⟩) (flR Dd q bd ss).sure.length (flR Dd q bd ss).sure.length := by simpa using e1
        injection e3 with e3
        injection e3 with e3
        injection e3 with e3
        exact e3.symm
      subst hseq
      have hmeq : m' = m0 := by
        have e1 := hDA.self.cell 1
        have e2 := hMr.1.trans (hM1.1.trans hc1)
        simp only [dkCells] at e1
        rw [e2] at e1
        simpa using e1.symm
      subst hmeq
      have hpl := hLr.pend
      have hsy := sync_any hDA hW hdn (by omega)
      have hcf := hFr.self.cell 0
      obtain ⟨_, ⟨vf, h2, _⟩, _⟩ := id hTr
      have hct := h2.cell 0
      have hfin : ∀ e w3, (e = .returned (.int .i64 0) ∧ DAt w3 B d 0 (flR Dd q bd ss).synced s' m' (.slice none 0 0) (.map []) ∧ Touch3 d s' m' wr w3) → FlEnd B f d 0 s' m' (flR Dd q bd ss).synced w e w3 := by
        rintro e w3 ⟨rfl, gD, gT⟩
        have t1 : ∀ {g : Nat} {ty : TypeId} {cs : Array Value}, Blk wr g ty cs → ty ≠ 110 → g ≠ s' → Blk w3 g ty cs := fun {g ty cs} hb n1 n2 =>
          (gT.block g hb.lt (hb.ne_ hDA.self n1) n2 (fun e => hDA.mne hb e.symm)).trans hb
        refine ⟨rfl, ⟨hFr.le, t1 hFr.self (by decide) (hFr.self.ne_ hDA.sure (by decide)), ⟨s', m', _, _, gD⟩⟩, (hbB.trans hBr).trans ⟨gT.os, gT.tape, gT.output, gT.size, fun g hg => ?_⟩, fun g ty cs hb n1 n2 n3 => t1 (hKr g ty cs (Kept.below hb1 g ty cs hb n1 n2) n1 n2) n1 n3, fun g es c hne hb => ?_⟩
        · obtain ⟨l1, l2, l3⟩ := hDA.le
          exact gT.block g (by have := hDA.self.lt; omega) (by omega) (by omega) (by omega)
        · have b1 : w1.heap[g]? = some (.map es c) := (hb1.block g (Array.getElem?_eq_some_iff.1 hb).1).trans hb
          have b2 := hMr.2 m' (hM1.1.trans hc1) g _ b1 rfl hne
          exact (gT.block g (Array.getElem?_eq_some_iff.1 b2).1 (fun e => by subst e; have := hDA.self; unfold Blk at this; rw [b2] at this; cases this) (fun e => by subst e; have := hDA.sure; unfold Blk at this; rw [b2] at this; cases this) hne).trans b2
      have HFIN := Lib.hid (fun e w3 h => (⟨ss, HPM.out, hfin e w3 h⟩ : ∃ ss : List Int, ss.Perm (intKeys D) ∧ FlEnd B f d 0 s' m' (flR Dd q bd ss).synced w e w3))
      clear hfin
      go_wp2_with fail
      refine Calls.mono hsy ?_
      rintro e w3 hS3
      obtain rfl := hS3.1
      have hlast := HFIN.out _ _ hS3
      clear hS3
      go_wp2
      exact bodyPost_ret (v := .int .i64 0) (by simp [results, Tryz.f38, go_sem]) rfl hlast
end Go.Proofs.YtpfplojkiloldaaGreatDoor
namespace Go.Proofs.YtpfplojkiloldaaGreatDoor
open Go.RowKit Go.Shelf
/-- a disk whose power does not go, and what its pages are -/
structure DkOk (D : Dk) (n : Nat) (c : Int → Option (Nat × Bs)) : Prop where
  size : D.sure.length = n
  left : D.left = -1
  down : D.down = false
  page : ∀ id, noPage n id = false → PageIs D id (c id)
def updP (c : Int → Option (Nat × Bs)) (id : Int) (kind : Nat) (b : Bs) : Int → Option (Nat × Bs) := fun j => if j = id then some (kind, b) else c j
theorem DkOk.fput {D : Dk} {n : Nat} {c : Int → Option (Nat × Bs)} (h : DkOk D n c) {id : Int} (hid : noPage n id = false) {kind : Nat} (hk : kind < 256) {b : Bs} (hb : b.length ≤ 240) :
    D.fputE id b = 0 ∧ DkOk (D.fput id kind b) n (updP c id kind b) ∧ (D.fput id kind b).writes = D.writes + 1 ∧ (D.fput id kind b).reads = D.reads := by
  have hl := h.left
  have he : D.fputE id b = 0 := by
    unfold Dk.fputE Dk.wroteE
    rw [h.size, hid, h.down, hl]
    rw [if_neg (by simp), if_neg (by omega), if_neg (by simp), if_neg (by decide)]
  have hp : D.fput id kind b = D.put id (Pg.page id.toNat kind b) := by
    unfold Dk.fput Dk.wrote
    rw [h.size, hid, h.down, hl]
    rw [if_neg (by simp), if_neg (by omega), if_neg (by simp), if_neg (by decide), if_neg (by decide)]
  refine ⟨he, ?_, by rw [hp]; rfl, by rw [hp]; rfl⟩
  rw [hp]
  refine ⟨h.size, h.left, h.down, fun j hj => ?_⟩
  by_cases e : j = id
  · subst e
    refine .inr ⟨kind, b, hk, hb, ?_, by unfold updP; rw [if_pos rfl]⟩
    unfold Dk.get Dk.put
    simp
  · have hg : (D.put id (Pg.page id.toNat kind b)).get j = D.get j := by unfold Dk.get Dk.put; simp [e]
    have hq := h.page j hj
    unfold PageIs at hq ⊢
    rw [hg]
    unfold updP
    rw [if_neg e]
    exact hq
end Go.Proofs.YtpfplojkiloldaaGreatDoor
namespace Go.Proofs.YtpfplojkiloldaaGreatDoor
open Go.RowKit Go.Shelf
def fresh (n : Nat) : Dk := { sure := List.replicate n zeroL, now := fun _ => none, pend := [], left := -1, down := false, reads := 0, writes := 0 }
theorem fresh_lim {n : Nat} (h : n ≤ 16384) : Lim (fresh n) 0 := ⟨by simp [fresh]; exact h, ⟨Int.le_refl _, Int.le_refl _⟩, ⟨Int.le_refl _, Int.le_refl _⟩, ⟨by show (-1 : Int) ≤ -1; omega, by show (-1 : Int) ≤ _; omega⟩, by simp [fresh]⟩
theorem owns_of {H : Type} {w : World} {P : Program} {k : TypeId} {R : Value → Option (DataW H × List MemPlace)} {m : Nat} (h : w.heap[m]? = some (.map #[] 0)) : w.ownsMap P k R m 0 (.map []) := by
  obtain ⟨es, c, h1, h2, h3, h4⟩ := World.ownsMap_made w P k R
  rw [heap_alloc_new] at h1
  injection h1 with h1
  injection h1 with h5 h6
  subst h5 h6
  exact ⟨_, _, h, h2, h3, h4⟩
theorem zero_str : (Value.string zeroPage) = str zeroL := by
  have : Lib.repeatL [0] 256 = zeroL := by decide +kernel
  unfold zeroPage str
  rw [this]
theorem rowZ_str (n : Nat) : rowZ zeroPage n n = ((fresh n).sure.map str).toArray := by
  unfold rowZ fresh
  rw [Nat.sub_self, zero_str]
  simp
theorem dfresh_any (k : Int) (w : World) :
    Calls Tryz.prog 30 #[.int .i64 k] w fun e w' => ∃ d, e = .returned (.pointer (some ⟨d, 0, none⟩)) ∧ DkAt w' w.heap.size d 0 (fresh (diskN k)) ∧ Below w.heap.size w w' := by
  refine (dnew_any k w).mono ?_
  rintro e w' ⟨d, s, m, rfl, h1, h2, h3, h4, h5, h6, h7⟩
  rw [rowZ_str] at h4
  refine ⟨d, rfl, ⟨s, m, .slice none 0 0, .map [], ⟨h1, h2, h3⟩, ?_, h4, owns_of h5, fun i z => ⟨by simp [Maps.has, fresh], by simp [DataW.atKey, fresh]⟩, LO.nil_ _ _⟩, h7⟩
  have hl : (fresh (diskN k)).sure.length = diskN k := by simp [fresh]
  unfold dkCells
  rw [hl]
  exact h6
set_option maxRecDepth 100000 in
set_option maxHeartbeats 400000 in
theorem ffresh_any {B d k : Nat} {D : Dk} {w : World} (hd : DkAt w B d k D) (hB : B ≤ w.heap.size) : Calls Tryz.prog 29 #[.pointer (some ⟨d, 0, none⟩)] w fun e w' => ∃ f, e = .returned (.pointer (some ⟨f, 0, none⟩)) ∧ FAt w' B f d k D ∧ Below w.heap.size w w' := by
  go_enter Tryz.func29, Tryz.ntmps29
  go_wp2
  go_ret
  exact ⟨_, rfl, ⟨hB, Blk.new w _ _, hd.keep ((Below.refl _ w).alloc (Nat.le_refl _) _)⟩, (Below.refl _ w).alloc (Nat.le_refl _) _⟩
end Go.Proofs.YtpfplojkiloldaaGreatDoor
namespace Go.Proofs.YtpfplojkiloldaaGreatDoor
open Go.RowKit Go.Shelf
/-- a disk whose pages are c, now and when all is done -/
structure DkC (D : Dk) (n : Nat) (c : Int → Option (Nat × Bs)) : Prop where
  ok : DkOk D n c
  well : WellD D
  sees : ∀ i : Int, 0 ≤ i → i < (n : Int) → D.get i = (doneL D.sure D.pend).getD i.toNat []
theorem DkC.readD {D : Dk} {n : Nat} {c : Int → Option (Nat × Bs)} (h : DkC D n c) (id : Int) : DkC (D.readD id) n c := by
  unfold Dk.readD
  split
  · exact h
  · split
    · exact h
    · exact ⟨⟨h.ok.size, h.ok.left, h.ok.down, h.ok.page⟩, ⟨h.well.sure, h.well.pend⟩, h.sees⟩
theorem fput_eq {D : Dk} {n : Nat} {c : Int → Option (Nat × Bs)} (h : DkOk D n c) {id : Int} (hid : noPage n id = false) {kind : Nat} {b : Bs} (hb : b.length ≤ 240) : D.fput id kind b = D.put id (Pg.page id.toNat kind b) := by
  unfold Dk.fput Dk.wrote
  rw [h.size, hid, h.down, h.left]
  rw [if_neg (by simp), if_neg (by omega), if_neg (by simp), if_neg (by decide), if_neg (by decide)]
theorem doneL_snoc (sure : List Bs) (pend : List (Int × Bs)) (x : Int × Bs) : doneL sure (pend ++ [x]) = (doneL sure pend).set x.1.toNat x.2 := by
  unfold doneL
  rw [List.foldl_append]
  rfl
theorem DkC.fput {D : Dk} {n : Nat} {c : Int → Option (Nat × Bs)} (h : DkC D n c) {id : Int} (hid : noPage n id = false) {kind : Nat} (hk : kind < 256) {b : Bs} (hb : b.length ≤ 240) :
    D.fputE id b = 0 ∧ DkC (D.fput id kind b) n (updP c id kind b) ∧ (D.fput id kind b).writes = D.writes + 1 := by
  obtain ⟨h1, h2, h3, _⟩ := h.ok.fput hid hk hb
  have hb2 : ¬ id < 2 ∧ ¬ (n : Int) ≤ id := by simpa [noPage] using hid
  refine ⟨h1, ?_, h3⟩
  have hp := fput_eq h.ok hid (kind := kind) hb
  have hsz := h.ok.size
  rw [hp] at h2 ⊢
  refine ⟨h2, ⟨h.well.sure, fun x hx => ?_⟩, fun i hi hn => ?_⟩
  · rcases List.mem_append.1 (show x ∈ D.pend ++ [(id, Pg.page id.toNat kind b)] from hx) with hx | hx
    · exact h.well.pend x hx
    · obtain rfl := List.mem_singleton.1 hx
      exact ⟨Pg.page_length _ _ _ hb, by show 0 ≤ id; omega, by show id < (D.sure.length : Int); omega⟩
  · show (D.put id (Pg.page id.toNat kind b)).get i = (doneL D.sure (D.pend ++ [(id, Pg.page id.toNat kind b)])).getD i.toNat []
    rw [doneL_snoc]
    have hs := h.sees i hi hn
    by_cases e : i = id
    · subst e
      have e1 : (D.put i (Pg.page i.toNat kind b)).get i = Pg.page i.toNat kind b := by unfold Dk.get Dk.put; simp
      rw [e1, List.getD_eq_getElem?_getD, List.getElem?_set_self (by rw [doneL_len]; omega)]
      rfl
    · have e1 : (D.put id (Pg.page id.toNat kind b)).get i = D.get i := by unfold Dk.get Dk.put; simp [e]
      rw [e1, hs, List.getD_eq_getElem?_getD, List.getD_eq_getElem?_getD, List.getElem?_set_ne (by show id.toNat ≠ i.toNat; omega)]
theorem DkC.synced {D : Dk} {n : Nat} {c : Int → Option (Nat × Bs)} (h : DkC D n c) : DkC D.synced n c := by
  have hsz := h.ok.size
  refine ⟨⟨by show (doneL D.sure D.pend).length = n; rw [doneL_len]; exact hsz, h.ok.left, h.ok.down, fun id hid => ?_⟩, ⟨fun x hx => doneL_all (n := n) D.pend D.sure h.well.sure (fun y hy => by have := h.well.pend y hy; omega) x hx, fun x hx => absurd hx List.not_mem_nil⟩, fun i hi hn => rfl⟩
  have hb2 : ¬ id < 2 ∧ ¬ (n : Int) ≤ id := by simpa [noPage] using hid
  have hg : D.synced.get id = D.get id := (h.sees id (by omega) (by omega)).symm
  have := h.ok.page id hid
  unfold PageIs at this ⊢
  rw [hg]
  exact this
theorem fresh_c {n : Nat} : DkC (fresh n) n (fun _ => none) := by
  refine ⟨⟨by simp [fresh], rfl, rfl, fun id hid => .inl ⟨?_, rfl⟩⟩, ⟨fun x hx => ?_, fun x hx => absurd hx List.not_mem_nil⟩, fun i _ _ => rfl⟩
  · have hb : ¬ id < 2 ∧ ¬ (n : Int) ≤ id := by simpa [noPage] using hid
    unfold Dk.get fresh
    simp only
    rw [List.getD_eq_getElem?_getD, List.getElem?_replicate]
    rw [if_pos (by omega)]
    rfl
  · have : x = zeroL := (List.mem_replicate.1 hx).2
    subst this
    decide +kernel
/-- the pages when those of a list were written -/
def updL (c : Int → Option (Nat × Bs)) (q : Nat) (bd : Int → Bs) (ss : List Int) : Int → Option (Nat × Bs) := fun i => if i ∈ ss then some (q, bd i) else c i
theorem flR_ok {n q : Nat} (hq : q < 256) (bd : Int → Bs) (ss : List Int) : ∀ (D : Dk) (c : Int → Option (Nat × Bs)), DkC D n c → (∀ x ∈ ss, noPage n x = false ∧ (bd x).length ≤ 240) →
    (∃ c', DkC (flR D q bd ss) n c' ∧ ∀ i, c' i = updL c q bd ss i) ∧ (flR D q bd ss).writes = D.writes + (ss.length : Int) := by
  induction ss with
  | nil => intro D c h _; exact ⟨⟨c, h, fun i => by simp [updL]⟩, by show D.writes = _; simp⟩
  | cons a r ih =>
    intro D c h hs
    obtain ⟨p1, p2⟩ := hs a (List.mem_cons_self ..)
    obtain ⟨_, g2, g3⟩ := h.fput p1 hq p2
    obtain ⟨⟨c', k1, k2⟩, k3⟩ := ih _ _ g2 (fun x hx => hs x (List.mem_cons_of_mem _ hx))
    refine ⟨⟨c', k1, fun i => ?_⟩, by show (flR (D.fput a q (bd a)) q bd r).writes = _; rw [k3, g3, List.length_cons]; omega⟩
    rw [k2 i]
    unfold updL updP
    by_cases e : i = a
    · subst e; simp
    · simp [e]
theorem flR_err {n q : Nat} (hq : q < 256) (bd : Int → Bs) (ss : List Int) {D : Dk} {c : Int → Option (Nat × Bs)} (h : DkC D n c) (hs : ∀ x ∈ ss, noPage n x = false ∧ (bd x).length ≤ 240) (j : Nat) (hj : j < ss.length) : (flR D q bd (ss.take j)).fputE ss[j] (bd ss[j]) = 0 := by
  obtain ⟨⟨c', k1, _⟩, _⟩ := flR_ok (n := n) hq bd (ss.take j) D c h (fun x hx => hs x (List.mem_of_mem_take hx))
  obtain ⟨p1, p2⟩ := hs _ (List.getElem_mem hj)
  exact (k1.fput p1 hq p2).1
end Go.Proofs.YtpfplojkiloldaaGreatDoor
namespace Go.Proofs.YtpfplojkiloldaaGreatDoor
open Go.RowKit Go.Shelf
/-- the map's keys are a row's numbers -/
structure KeysAre (D : DataW Value) (mine : List Int) : Prop where
  tidy : Maps.Tidy D
  has : ∀ x, Maps.has D (.int .i64 x) = decide (x ∈ mine)
  size : Maps.size D = mine.length
theorem KeysAre.nil_ : KeysAre (.map []) [] := ⟨Maps.tidy_empty, fun _ => rfl, rfl⟩
theorem KeysAre.put_ {D : DataW Value} {mine : List Int} (h : KeysAre D mine) {id : Int} (hid : id ∉ mine) (v : DataW Value) : KeysAre (D.put (.int .i64 id) v) (mine ++ [id]) := by
  refine ⟨h.tidy.put (by trivial) v, fun x => ?_, ?_⟩
  · rw [has_putI h.tidy.isMap, h.has]
    rw [Bool.eq_iff_iff]
    simp
    exact ⟨fun h => h.symm, fun h => h.symm⟩
  · rw [Maps.size_put h.tidy, h.has, decide_eq_false hid, if_neg (by simp), h.size]; simp
theorem filter_len : ∀ {l : List Int} {id : Int}, l.Nodup → id ∈ l → (l.filter fun x => x != id).length + 1 = l.length
  | [], _, _, h => by cases h
  | y :: l, id, hn, h => by
    obtain ⟨h1, h2⟩ := List.nodup_cons.1 hn
    rw [List.filter_cons]
    by_cases e : y = id
    · subst e
      rw [if_neg (by simp), Rp.filter_out h1, List.length_cons]
    · rw [if_pos (by simpa using e), List.length_cons, List.length_cons, filter_len h2 (by rcases List.mem_cons.1 h with h | h; exact absurd h.symm e; exact h)]
theorem KeysAre.drop_ {D : DataW Value} {mine : List Int} (h : KeysAre D mine) (hn : mine.Nodup) (id : Int) : KeysAre (dropD D id) (mine.filter fun x => x != id) := by
  unfold dropD
  rw [h.has]
  by_cases hid : id ∈ mine
  · rw [decide_eq_true hid, if_pos rfl]
    refine ⟨h.tidy.del _, fun x => ?_, ?_⟩
    · rw [has_delI, h.has, Bool.eq_iff_iff]
      simp [List.mem_filter]
      exact ⟨fun h => ⟨h.2, h.1⟩, fun h => ⟨h.2, h.1⟩⟩
    · have h1 := Maps.size_del (k := .int .i64 id) h.tidy
      rw [h.has, decide_eq_true hid, if_pos rfl, h.size] at h1
      have h2 := filter_len hn hid
      omega
  · rw [decide_eq_false hid, Rp.filter_out hid]
    exact h
theorem ap_drop {room p : Int} {fr used : List Run} {mine : List Int} {D : DataW Value} (h : Rp.Ap room fr used mine p) (hk : KeysAre D mine) (id : Int) : Rp.Ap room (dropF fr D id) used (mine.filter fun x => x != id) p := by
  unfold dropF
  rw [hk.has]
  by_cases hid : id ∈ mine
  · rw [decide_eq_true hid, if_pos rfl]; exact h.dropped hid
  · rw [decide_eq_false hid, Rp.filter_out hid]; exact h
theorem dropF_len (fr : List Run) (D : DataW Value) (x : Int) : (dropF fr D x).length ≤ fr.length + 1 := by
  unfold dropF
  split
  · simpa using union_len fr [(x, x)]
  · omega
theorem KeysAre.reput {D : DataW Value} {mine : List Int} (h : KeysAre D mine) {id : Int} (hid : id ∈ mine) (v : DataW Value) : KeysAre (D.put (.int .i64 id) v) mine := by
  refine ⟨h.tidy.put (by trivial) v, fun x => ?_, ?_⟩
  · rw [has_putI h.tidy.isMap, h.has]
    rw [Bool.eq_iff_iff]
    simp
    rintro rfl
    exact hid
  · rw [Maps.size_put h.tidy, h.has, decide_eq_true hid, if_pos rfl, h.size]
theorem keeps_alloc (t m f n k : Nat) (fr used : List Run) (mine : List Int) (p : Int) (D : DataW Value) (hl : fr.length ≤ 80000) (hk : k < maxLen) (h : Rp.Ap (max (n : Int) 2) fr used mine p) (hm : KeysAre D mine) :
    (∃ (id : Int) (fr1 : List Run) (p1 : Int) (D1 : DataW Value), D1 = D.put (.int .i64 id) (.held (content false 0 ⟨#[]⟩)) ∧
      (∀ w : World, Txn w t m f n fr p k D → Calls Tryz.prog 151 #[.pointer (some ⟨t, 0, none⟩)] w fun e w' => e = .returned (.tuple #[.int .i64 id, .int .i64 0]) ∧ Touch t m w w' ∧ Txn w' t m f n fr1 p1 (k + 1) D1) ∧
      (id ∉ mine ∧ Rp.has used id = false ∧ 2 ≤ id ∧ id < max (n : Int) 2) ∧ Rp.Ap (max (n : Int) 2) fr1 used (mine ++ [id]) p1 ∧ KeysAre D1 (mine ++ [id]) ∧ fr1.length ≤ fr.length + 5) ∨
    (∀ w : World, Txn w t m f n fr p k D → Calls Tryz.prog 151 #[.pointer (some ⟨t, 0, none⟩)] w fun e w' => e = .returned (.tuple #[.int .i64 0, .int .i64 2]) ∧ Touch t m w w' ∧ Txn w' t m f n fr p k D) := by
  have hp := h.pg
  have hA := fun (w : World) (hT : Txn w t m f n fr p k D) => talloc_any t m f n k fr p D hl hk (by omega) w hT
  cases hfi : firstR fr with
  | some id =>
    obtain ⟨h1, h2, h3, h4, h5⟩ := h.free (id := id) hfi
    have ha : allocV fr p (max (n : Int) 2) = some (id, Rp.minus fr [(id, id)], p) := by unfold allocV; rw [hfi]
    have hml := minus_len fr [(id, id)]
    rw [ha] at hA
    refine .inl ⟨id, _, p, _, rfl, fun w hT => (hA w hT).mono ?_, ⟨h1, h2, h3, by omega⟩, h5, hm.put_ h1 _, by simpa using hml⟩
    rintro e w' ⟨g1, g2, g3⟩
    exact ⟨g2, g1, g3⟩
  | none =>
    by_cases hfull : max (n : Int) 2 ≤ p
    · have ha : allocV fr p (max (n : Int) 2) = none := by unfold allocV; rw [hfi]; simp only; rw [if_pos hfull]
      rw [ha] at hA
      refine .inr fun w hT => (hA w hT).mono ?_
      rintro e w' ⟨g1, g2, g3⟩
      exact ⟨g2, g1, g3⟩
    · have ha : allocV fr p (max (n : Int) 2) = some (p, fr, p + 1) := by unfold allocV; rw [hfi]; simp only; rw [if_neg hfull]
      rw [ha] at hA
      obtain ⟨h1, h2, h3⟩ := h.fresh (by omega)
      refine .inl ⟨p, fr, p + 1, _, rfl, fun w hT => (hA w hT).mono ?_, ⟨h1, h2, by omega, by omega⟩, h3, hm.put_ h1 _, by omega⟩
      rintro e w' ⟨g1, g2, g3⟩
      exact ⟨g2, g1, g3⟩
/-- what was put in each page -/
def Conts (D : DataW Value) (q : Int) (ids : List Int) (puts : List Bs) : Prop := ids.length = puts.length ∧ ∀ (j : Nat) (h1 : j < ids.length) (h2 : j < puts.length) (z : DataW Value), D.atKey (.int .i64 ids[j]) z = .held (content true q ⟨puts[j].toArray⟩)
theorem Conts.nil_ (D : DataW Value) (q : Int) : Conts D q [] [] := ⟨rfl, fun j h => absurd h (by simp)⟩
theorem Conts.snoc_ {D D1 : DataW Value} {q id : Int} {ids : List Int} {puts : List Bs} (h : Conts D q ids puts) (hm : KeysAre D1 (ids ++ [id])) (hid : id ∉ ids) (v : DataW Value) (hD1 : D1 = D.put (.int .i64 id) v) (b : Bs) : Conts (D1.put (.int .i64 id) (.held (content true q ⟨b.toArray⟩))) q (ids ++ [id]) (puts ++ [b]) := by
  obtain ⟨hl, h⟩ := h
  refine ⟨by simp [hl], fun j h1 h2 z => ?_⟩
  by_cases hj : j < ids.length
  · have hne : ids[j] ≠ id := fun e => hid (e ▸ List.getElem_mem hj)
    have hne2 : (Lit.int .i64 ids[j]) ≠ .int .i64 id := fun e => by injection e with _ e; exact hne e
    rw [List.getElem_append_left hj, List.getElem_append_left (by omega), Maps.atKey_put_other hne2, hD1, Maps.atKey_put_other hne2]
    exact h j hj (by omega) z
  · have e : j = ids.length := by simp at h1; omega
    subst e
    rw [List.getElem_append_right (Nat.le_refl _), List.getElem_append_right (by omega)]
    simp only [hl, Nat.sub_self, List.getElem_cons_zero]
    exact Maps.atKey_put_same hm.tidy.isMap (by trivial) _ _
theorem ids_perm {w : World} {t m f n k : Nat} {free : List Run} {pages : Int} {D : DataW Value} (h : Txn w t m f n free pages k D) {ids : List Int} (hk : KeysAre D ids) (hn : ids.Nodup) : ids.Perm (intKeys D) :=
  CollectedI.perm (left := fun _ => false) ⟨hn, fun x => by rw [hk.has]; simp⟩ h.map keyedI Tryz.underlying3 (fun _ => rfl)
/-- the body that was put in a page -/
def bdOf (ids : List Int) (puts : List Bs) (x : Int) : Bs := puts.getD (ids.idxOf x) []
theorem bdOf_at {ids : List Int} {puts : List Bs} (hl : ids.length = puts.length) (hn : ids.Nodup) (j : Nat) (hj : j < ids.length) : bdOf ids puts ids[j] = puts[j] := by
  unfold bdOf
  rw [List.Nodup.idxOf_getElem hn j hj, List.getD_eq_getElem?_getD, List.getElem?_eq_getElem (by omega)]
  rfl
/-- a row whose cells are of another type lies as it lay -/
theorem keep_touch {t m f n k : Nat} {free : List Run} {pages : Int} {D : DataW Value} {w w' : World} {base e size c : Nat} {v : Value} {xs : List Value} (h : w.ownsRow base e size v c xs) (hT : Txn w t m f n free pages k D) (ht : Touch t m w w') (hne : e ≠ 124) : w'.ownsRow base e size v c xs := by
  refine ⟨h.1, ?_⟩
  rcases h.2 with h0 | ⟨g, cap, cur, h1, h2, h3, h4⟩
  · exact .inl h0
  · refine .inr ⟨g, cap, cur, h1, h2, ?_, h4⟩
    rw [ht.block g (Array.getElem?_eq_some_iff.1 h3).1 ?_ ?_]; exact h3
    · rintro rfl
      obtain ⟨_, hb, _⟩ := hT.self
      unfold Blk at hb
      rw [h3] at hb
      injection hb with hb; injection hb with _ hb; exact hne hb
    · rintro rfl
      obtain ⟨es, cl, hm, _⟩ := hT.map
      rw [h3] at hm; cases hm
theorem txn_row {t m f n k : Nat} {free : List Run} {pages : Int} {D : DataW Value} {w w' : World} (h : Txn w t m f n free pages k D) {base2 size2 c2 : Nat} {v2 : Value} {xs2 : List Value} (h2 : w.ownsRow base2 3 size2 v2 c2 xs2) (hg : w.grownBy w' v2.ownBlock) : Txn w' t m f n free pages k D :=
  h.keep hg fun r hr => by
    obtain ⟨cs, hcs⟩ := own_obj h2 hr
    refine ⟨_, hcs, ?_, ?_, ?_, ?_, ?_⟩
    all_goals intro cs' e
    · injection e with _ e; cases e
    · injection e with _ e; cases e
    · injection e with _ e; cases e
    · injection e with _ e; cases e
    · intro e; cases e
end Go.Proofs.YtpfplojkiloldaaGreatDoor
namespace Go.Proofs.YtpfplojkiloldaaGreatDoor
open Go.RowKit Go.Shelf
section
variable {w w' : World} {t m f n k : Nat} {free : List Run} {pages : Int} {D : DataW Value} {S' : Nat → Prop}
/-- what turns no block of a change's kinds leaves it as it is -/
theorem Txn.fr (h : Txn w t m f n free pages k D) (hf : Fr S' w w') (hfar : ∀ b, S' b → ∀ o, w.heap[b]? = some o → Far o) : Txn w' t m f n free pages k D := by
  have key : ∀ b o, w.heap[b]? = some o → ¬ Far o → w'.heap[b]? = some o := fun b o ho hn => (hf.block b (Array.getElem?_eq_some_iff.1 ho).1 (fun a => hn (hfar b a o ho))).trans ho
  obtain ⟨⟨d, h1, cs, A, c, h2, h3⟩, ⟨v, h4, h5⟩, es, ck, h6, h7⟩ := h
  refine ⟨⟨d, key _ _ h1 (fun a => a.2.2.1 _ rfl), cs, A, c, key _ _ h2 (fun a => a.2.2.2.1 _ rfl), h3⟩, ⟨v, key _ _ h4 (fun a => a.2.1 _ rfl), ?_⟩, es, ck, key _ _ h6 (fun a => a.2.2.2.2 _ _ rfl), h7⟩
  rcases h5 with ⟨e1, e2 | ⟨g, cap, cur, hv, hb, hh, hr⟩⟩
  · exact ⟨e1, .inl e2⟩
  · exact ⟨e1, .inr ⟨g, cap, cur, hv, hb, key _ _ hh (fun a => a.1 _ rfl), hr⟩⟩
/-- a map's bound may be its size -/
theorem Txn.tight (h : Txn w t m f n free pages k D) : Txn w t m f n free pages (Maps.size D) D := by
  obtain ⟨h1, h2, es, ck, h6, h7, h8, h9⟩ := h
  refine ⟨h1, h2, es, ck, h6, h7, ?_, h9⟩
  rw [h9]
  exact Nat.le_of_eq (length_read es).symm
end
/-- a change of fresh pages alone: its pages are the tree's nodes -/
structure TMf (B t m f n : Nat) (r : Nat) (σ : Tp.Pst) (w : World) : Prop where
  low : t < B ∧ m < B ∧ B ≤ w.heap.size
  ap : Rp.Ap (max (n : Int) 2) σ.free [] σ.mine σ.pages
  fit : ∀ id, id ∈ σ.mine → ∀ x, σ.nd id = some x → Nd.fits x = true
  txn : ∃ D, Txn w t m f n σ.free σ.pages σ.mine.length D ∧ KeysAre D σ.mine ∧ ∀ id, id ∈ σ.mine → ∀ x, σ.nd id = some x → ∀ z, D.atKey (.int .i64 id) z = .held (content true (if x.leaf then 1 else 2) (Nd.str (Nd.enc x)))
section
variable {B t m f n r r' : Nat} {σ : Tp.Pst} {w w' : World} {S' : Nat → Prop}
theorem TMf.up (h : TMf B t m f n r σ w) (hf : Fr S' w w') (hS : FarS B w S') : TMf B t m f n r σ w' := by
  obtain ⟨h1, h2, h3, D, h4, h5⟩ := h
  exact ⟨⟨h1.1, h1.2.1, Nat.le_trans h1.2.2 hf.size⟩, h2, h3, D, h4.fr hf (fun b a => (hS b a).2), h5⟩
theorem TMf.less (h : TMf B t m f n r σ w) : TMf B t m f n r' σ w := ⟨h.low, h.ap, h.fit, h.txn⟩
theorem view_none {id : Int} {x : Nd.Node} (hv : σ.view (fun _ => none) id = some x) : id ∈ σ.mine ∧ σ.nd id = some x := by
  unfold Tp.Pst.view at hv
  split at hv
  · rename_i hm; exact ⟨hm, hv⟩
  · split at hv <;> cases hv
theorem TMf.idok (h : TMf B t m f n r σ w) {id : Int} (hm : id ∈ σ.mine) : IdOk id := by
  have h1 := h.ap.hm id hm
  have h2 := h.ap.pg
  unfold IdOk; omega
theorem TMf.fresh (h : TMf B t m f n r σ w) (id : Int) (hid : IdOk id) :
    Calls Tryz.prog 37 #[.pointer (some ⟨t, 0, none⟩), .int .i64 id] w fun e w' => e = .returned (.bool (decide (id ∈ σ.mine))) ∧ TMf B t m f n r σ w' ∧ Fr (fun k => k = t ∨ k = m) w w' := by
  obtain ⟨D, h4, h5, h6⟩ := h.txn
  refine (tfresh_any t m f n _ _ _ D id hid.wf w h4).mono ?_
  rintro e w1 ⟨rfl, hb⟩
  exact ⟨by rw [h5.has], h.up (.of_below hb) (fun k (a : False) => a.elim), .of_below hb⟩
theorem canon_len : ∀ (l : List Run) (lo p : Int), Rp.Canon lo l → (∀ x, Rp.Mem l x → x < p) → 2 * (l.length : Int) ≤ max 0 (p - lo + 1)
  | [], lo, p, _, _ => by simp; omega
  | a :: l, lo, p, h, hm => by
    obtain ⟨h1, h2, h3, h4⟩ := h
    have ih := canon_len l (a.2 + 2) p h4 (fun x ⟨b, hb, hx⟩ => hm x ⟨b, List.mem_cons_of_mem _ hb, hx⟩)
    have := hm a.2 ⟨a, List.mem_cons_self, h2, Int.le_refl _⟩
    rw [List.length_cons]
    omega
theorem ap_small {room p : Int} {fr used : List Run} {mine : List Int} (h : Rp.Ap room fr used mine p) : fr.length ≤ 80000 ∧ mine.length ≤ 100000 := by
  have hp := h.pg
  have h1 := canon_len fr 0 p h.cf (fun x hx => (h.hf x hx).2)
  refine ⟨by omega, ?_⟩
  have hsub : mine ⊆ (List.range 100000).map (fun i : Nat => (2 : Int) + (i : Int)) := fun x hx => by
    have := h.hm x hx
    exact List.mem_map.2 ⟨(x - 2).toNat, List.mem_range.2 (by omega), by omega⟩
  have := List.Nodup.length_le_of_subset h.nd hsub
  simpa using this
theorem Touch.fr {t m : Nat} {w w' : World} (h : Touch t m w w') : Fr (fun k => k = t ∨ k = m) w w' := ⟨h.os, h.tape, h.output, h.size, fun k hk a => h.block k hk (fun e => a (.inl e)) (fun e => a (.inr e))⟩
theorem TMf.get (h : TMf B t m f n r σ w) {id : Int} {x : Nd.Node} (hv : σ.view (fun _ => none) id = some x) (k : Nat) (h1 : x.leaf = true → k = 1) (h2 : x.leaf = false → k = 2) :
    Calls Tryz.prog 79 #[.pointer (some ⟨t, 0, none⟩), .int .i64 id, .int .u8 k] w fun e w' => e = .returned (.tuple #[.string (Nd.str (Nd.enc x)), .int .i64 0]) ∧ TMf B t m f n r' σ w' ∧ Fr (fun k => k = t ∨ k = m) w w' := by
  obtain ⟨hm, hx⟩ := view_none hv
  obtain ⟨D, h4, h5, h6⟩ := h.txn
  have hk : (if x.leaf then 1 else 2 : Int) = (k : Int) := by
    cases hl : x.leaf with
    | true => rw [h1 hl]; rfl
    | false => rw [h2 hl]; rfl
  refine (tget_fresh t m f n _ _ _ D id _ k _ (h.idok hm).wf (by rw [h5.has]; exact decide_eq_true hm) (h6 id hm x hx) w h4).mono ?_
  rintro e w1 ⟨rfl, hb⟩
  rw [if_pos hk]
  exact ⟨rfl, (h.up (.of_below hb) (fun k (a : False) => a.elim)).less, .of_below hb⟩
theorem TMf.getN (h : TMf B t m f n r σ w) {id : Int} {x : Nd.Node} (hv : σ.view (fun _ => none) id = some x) (h2 : x.leaf = false) :
    Calls Tryz.prog 79 #[.pointer (some ⟨t, 0, none⟩), .int .i64 id, .int .u8 1] w fun e w' => e = .returned (.tuple #[.string ⟨#[]⟩, .int .i64 3]) ∧ TMf B t m f n r' σ w' ∧ Fr (fun k => k = t ∨ k = m) w w' := by
  obtain ⟨hm, hx⟩ := view_none hv
  obtain ⟨D, h4, h5, h6⟩ := h.txn
  refine (tget_fresh t m f n _ _ _ D id _ 1 _ (h.idok hm).wf (by rw [h5.has]; exact decide_eq_true hm) (h6 id hm x hx) w h4).mono ?_
  rintro e w1 ⟨rfl, hb⟩
  rw [h2, if_neg (by decide)]
  exact ⟨rfl, (h.up (.of_below hb) (fun k (a : False) => a.elim)).less, .of_below hb⟩
theorem TMf.put (h : TMf B t m f n r σ w) {id : Int} {x : Nd.Node} (hm : id ∈ σ.mine) (hfit : Nd.fits x = true) (k : Nat) (h1 : x.leaf = true → k = 1) (h2 : x.leaf = false → k = 2) :
    Calls Tryz.prog 152 #[.pointer (some ⟨t, 0, none⟩), .int .i64 id, .int .u8 k, .string (Nd.str (Nd.enc x))] w fun e w' => e = .returned (.int .i64 0) ∧ TMf B t m f n r (σ.put id x) w' ∧ Fr (fun k => k = t ∨ k = m) w w' := by
  obtain ⟨D, h4, h5, h6⟩ := h.txn
  have hk : (k : Int) = (if x.leaf then 1 else 2 : Int) := by
    cases hl : x.leaf with
    | true => rw [h1 hl]; rfl
    | false => rw [h2 hl]; rfl
  have hsm := ap_small h.ap
  have hs : (Nd.str (Nd.enc x)).size ≤ 240 := by
    have hr := Tp.fits_iff.1 hfit
    have := Nd.enc_length hr.1
    have e : (Nd.str (Nd.enc x)).size = (Nd.enc x).length := by simp [Nd.str, ByteArray.size]
    have := hr.2
    omega
  refine (tput_yes t m f n _ _ _ D id k _ (h.idok hm).wf (by unfold maxLen; omega) (by rw [h5.has]; exact decide_eq_true hm) hs w h4).mono ?_
  rintro e w1 ⟨rfl, ht, hT⟩
  have hk5 := h5.reput hm (.held (content true k (Nd.str (Nd.enc x))))
  have hT2 := hT.tight
  rw [hk5.size] at hT2
  refine ⟨rfl, ⟨⟨h.low.1, h.low.2.1, Nat.le_trans h.low.2.2 ht.size⟩, h.ap, fun i hi y hy => ?_, _, hT2, hk5, fun i hi y hy z => ?_⟩, ht.fr⟩
  · unfold Tp.Pst.put at hy
    simp only at hy
    split at hy
    · injection hy with hy; subst hy; exact hfit
    · exact h.fit i hi y hy
  · unfold Tp.Pst.put at hy
    simp only at hy
    split at hy
    · rename_i e
      injection hy with hy
      subst hy e
      rw [Maps.atKey_put_same h5.tidy.isMap (by trivial), hk]
    · rename_i e
      rw [Maps.atKey_put_other (fun a => by injection a with _ a; exact e a)]
      exact h6 i hi y hy z
theorem TMf.drop (h : TMf B t m f n r σ w) (id : Int) (hid : IdOk id) :
    Calls Tryz.prog 109 #[.pointer (some ⟨t, 0, none⟩), .int .i64 id] w fun e w' => e = .returned (.tuple #[]) ∧ TMf B t m f n r (Tp.pDrop σ id) w' ∧ Fr (fun k => k = t ∨ k = m) w w' := by
  obtain ⟨D, h4, h5, h6⟩ := h.txn
  have hsm := ap_small h.ap
  refine (tdrop_any t m f n _ _ _ D id hid.wf (by omega) w h4).mono ?_
  rintro e w1 ⟨rfl, ht, hT⟩
  have hk5 := h5.drop_ h.ap.nd id
  have hap := ap_drop h.ap h5 id
  have hT2 := hT.tight
  rw [hk5.size] at hT2
  have hfr : (Tp.pDrop σ id).free = dropF σ.free D id := by
    unfold Tp.pDrop dropF
    simp only [h5.has, decide_eq_true_eq]
  refine ⟨rfl, ⟨⟨h.low.1, h.low.2.1, Nat.le_trans h.low.2.2 ht.size⟩, by rw [hfr]; exact hap, fun i hi y hy => h.fit i (List.mem_filter.1 hi).1 y hy, _, by rw [hfr]; exact hT2, hk5, fun i hi y hy z => ?_⟩, ht.fr⟩
  have hi2 := List.mem_filter.1 hi
  have hne : i ≠ id := by simpa using hi2.2
  unfold dropD
  split
  · rw [Maps.atKey_del_other (fun a => by injection a with _ a; exact hne a)]
    exact h6 i hi2.1 y hy z
  · exact h6 i hi2.1 y hy z
theorem allocV_eq (free : List Run) (pages room : Int) : allocV free pages room = Tp.allocV free pages room := rfl
theorem TMf.alloc (h : TMf B t m f n r σ w) {σ' : Tp.Pst} {id : Int} (ha : Tp.pAlloc (max (n : Int) 2) σ = some (id, σ')) :
    Calls Tryz.prog 151 #[.pointer (some ⟨t, 0, none⟩)] w fun e w' => e = .returned (.tuple #[.int .i64 id, .int .i64 0]) ∧ IdOk id ∧ id ∈ σ'.mine ∧ TMf B t m f n r σ' w' ∧ Fr (fun k => k = t ∨ k = m) w w' := by
  obtain ⟨D, h4, h5, h6⟩ := h.txn
  have hsm := ap_small h.ap
  have hp := h.ap.pg
  have hA := talloc_any t m f n σ.mine.length σ.free σ.pages D hsm.1 (by unfold maxLen; omega) (by omega) w h4
  rw [allocV_eq] at hA
  unfold Tp.pAlloc at ha
  cases hv : Tp.allocV σ.free σ.pages (max (n : Int) 2) with
  | none => rw [hv] at ha; cases ha
  | some o =>
    obtain ⟨id', fr, p⟩ := o
    rw [hv] at ha hA
    simp only [Option.some.injEq, Prod.mk.injEq] at ha
    obtain ⟨rfl, rfl⟩ := ha
    have hstep : id' ∉ σ.mine ∧ IdOk id' ∧ Rp.Ap (max (n : Int) 2) fr [] (σ.mine ++ [id']) p := by
      unfold Tp.allocV at hv
      cases hl : Rp.least σ.free with
      | some j =>
        rw [hl] at hv
        injection hv with hv
        injection hv with e1 hv
        injection hv with e2 e3
        subst e1 e2 e3
        obtain ⟨g1, g2, g3, g4, g5⟩ := h.ap.free hl
        exact ⟨g1, by unfold IdOk; omega, g5⟩
      | none =>
        rw [hl] at hv
        simp only at hv
        split at hv
        · cases hv
        · injection hv with hv
          injection hv with e1 hv
          injection hv with e2 e3
          subst e1 e2 e3
          obtain ⟨g1, g2, g3⟩ := h.ap.fresh (by omega)
          exact ⟨g1, by unfold IdOk; omega, g3⟩
    obtain ⟨g1, g2, g3⟩ := hstep
    have hk5 := h5.put_ g1 (.held (content false 0 ⟨#[]⟩))
    refine hA.mono ?_
    rintro e w1 ⟨ht, rfl, hT⟩
    have hT2 := hT.tight
    rw [hk5.size] at hT2
    refine ⟨rfl, g2, List.mem_append_right _ (List.mem_singleton.2 rfl), ⟨⟨h.low.1, h.low.2.1, Nat.le_trans h.low.2.2 ht.size⟩, g3, fun i hi y hy => ?_, _, hT2, hk5, fun i hi y hy z => ?_⟩, ht.fr⟩
    · simp only at hy
      split at hy
      · cases hy
      · rename_i e
        rcases List.mem_append.1 hi with hi | hi
        · exact h.fit i hi y hy
        · exact absurd (List.mem_singleton.1 hi) e
    · simp only at hy
      split at hy
      · cases hy
      · rename_i e
        rw [Maps.atKey_put_other (fun a => by injection a with _ a; exact e a)]
        rcases List.mem_append.1 hi with hi | hi
        · exact h6 i hi y hy z
        · exact absurd (List.mem_singleton.1 hi) e
theorem TMf.full (h : TMf B t m f n r σ w) (ha : Tp.pAlloc (max (n : Int) 2) σ = none) :
    Calls Tryz.prog 151 #[.pointer (some ⟨t, 0, none⟩)] w fun e w' => e = .returned (.tuple #[.int .i64 0, .int .i64 2]) ∧ TMf B t m f n r σ w' ∧ Fr (fun k => k = t ∨ k = m) w w' := by
  obtain ⟨D, h4, h5, h6⟩ := h.txn
  have hsm := ap_small h.ap
  have hp := h.ap.pg
  have hA := talloc_any t m f n σ.mine.length σ.free σ.pages D hsm.1 (by unfold maxLen; omega) (by omega) w h4
  rw [allocV_eq] at hA
  unfold Tp.pAlloc at ha
  cases hv : Tp.allocV σ.free σ.pages (max (n : Int) 2) with
  | some o => rw [hv] at ha; cases ha
  | none =>
    rw [hv] at hA
    refine hA.mono ?_
    rintro e w1 ⟨ht, rfl, hT⟩
    exact ⟨rfl, ⟨⟨h.low.1, h.low.2.1, Nat.le_trans h.low.2.2 ht.size⟩, h.ap, h.fit, D, hT, h5, h6⟩, ht.fr⟩
end
/-- the allocator's change serves the tree, where all its pages are fresh -/
theorem mach_fresh {B t m : Nat} (ht : t < B) (hm : m < B) (f n : Nat) : Mach (fun k => k = t ∨ k = m) B t (max (n : Int) 2) (fun _ => none) (TMf B t m f n) where
  low := fun k a => by rcases a with rfl | rfl <;> assumption
  size := fun h => h.low.2.2
  up := fun h hf hS => h.up hf hS
  less := fun h _ => h.less
  ht := fun h hv => ⟨h.fit _ (view_none hv).1 _ (view_none hv).2, h.idok (view_none hv).1⟩
  get := fun h hv k h1 h2 => h.get hv k h1 h2
  getN := fun h hv h2 => h.getN hv h2
  fresh := fun id h hid => h.fresh id hid
  alloc := fun h ha => h.alloc ha
  full := fun h ha => h.full ha
  put := fun h _ hm hfit k h1 h2 => h.put hm hfit k h1 h2
  drop := fun id h hid => h.drop id hid
end Go.Proofs.YtpfplojkiloldaaGreatDoor
namespace Go.Proofs.YtpfplojkiloldaaGreatDoor
open Go.RowKit Go.Shelf
section
variable {S : Nat → Prop} {B t : Nat} {room : Int} {disk : Tp.Disk} {TM : Nat → Tp.Pst → World → Prop}
/-- what stands of a change and of a tree's struct while a function runs -/
structure On (S : Nat → Prop) (B t u : Nat) (TM : Nat → Tp.Pst → World → Prop) (root e : Int) (r : Nat) (σ : Tp.Pst) (w : World) : Prop where
  tm : TM r σ w
  self : Blk w u 84 (TreeV t root e)
  hu : B ≤ u
section
variable {root e : Int} {r : Nat} {σ σ' : Tp.Pst} {w w' : World} {u : Nat}
theorem On.below (M : Mach S B t room disk TM) (h : On S B t u TM root e r σ w) (hb : Below w.heap.size w w') : On S B t u TM root e r σ w' := ⟨M.below h.tm hb, h.self.below hb h.self.lt, h.hu⟩
theorem On.step (M : Mach S B t room disk TM) (h : On S B t u TM root e r σ w) {r' : Nat} (ht : TM r' σ' w') (hf : Fr S w w') : On S B t u TM root e r' σ' w' := ⟨ht, hf.blk h.self (fun a => by have := M.low u a; have := h.hu; omega), h.hu⟩
theorem On.own (M : Mach S B t room disk TM) (h : On S B t u TM root e r σ w) {g : Nat} {ty : TypeId} {cs : Array Value} (hf : Fr (fun k => k = g) w w') (hB : Blk w g ty cs) (hg : B ≤ g) (h0 : g ≠ u) (h1 : ty ≠ 120) (h2 : ty ≠ 124) (h3 : ty ≠ 99) (h4 : ty ≠ 110) : On S B t u TM root e r σ w' :=
  ⟨M.own h.tm hf hB hg h1 h2 h3 h4, hf.blk h.self (fun a => h0 a.symm), h.hu⟩
theorem On.less (M : Mach S B t room disk TM) (h : On S B t u TM root e r σ w) {r' : Nat} (hr : r' ≤ r) : On S B t u TM root e r' σ w := ⟨M.less h.tm hr, h.self, h.hu⟩
end
theorem Mach.far (M : Mach S B t room disk TM) {g : Nat} (hg : B ≤ g) : ¬ S g := fun a => by have := M.low g a; omega
/-- how load ends -/
def LoadEnd (S : Nat → Prop) (B t u : Nat) (TM : Nat → Tp.Pst → World → Prop) (root er : Int) (r : Nat) (σ : Tp.Pst) (n : Nd.Node) (w : World) (e : Ending) (w' : World) : Prop :=
  ∃ v, e = .returned (.tuple #[v, .int .i64 0]) ∧ NF w.heap.size w' v n ∧ On S B t u TM root er r σ w' ∧ Fr S w w'
set_option maxRecDepth 100000 in
set_option maxHeartbeats 1000000 in
theorem load_any (M : Mach S B t room disk TM) (u : Nat) (root er : Int) (r : Nat) (σ : Tp.Pst) (id : Int) (d : Nat) (n : Nd.Node) (hv : σ.view disk id = some n) (hd : d < 24) (w : World) (h : On S B t u TM root er (r + 2) σ w) :
    Calls Tryz.prog 49 #[.pointer (some ⟨u, 0, none⟩), .int .i64 id, .int .i64 (d : Nat)] w (LoadEnd S B t u TM root er r σ n w) := by
  obtain ⟨hfit, hidok⟩ := M.ht h.tm hv
  have hb1 := (Below.refl w.heap.size w).alloc (Nat.le_refl _) (.cells #[.bool false, .slice none 0 0, .slice none 0 0, .slice none 0 0] 58)
  have h1 := h.below M hb1
  have hBg := Blk.new w 58 #[.bool false, .slice none 0 0, .slice none 0 0, .slice none 0 0]
  have hsz := M.size h.tm
  have hd1 : ¬ 24 ≤ (d : Int) := by omega
  have c0 : (w.alloc (.cells #[.bool false, .slice none 0 0, .slice none 0 0, .slice none 0 0] 58)).cell? ⟨u, 0, none⟩ = some (.pointer (some ⟨t, 0, none⟩)) := h1.self.cell 0
  have lu := h1.self.lt
  have hun : u < w.heap.size := h.self.lt
  have HFIT := Lib.hid hfit
  have HM := Lib.hid M
  have HV := Lib.hid hv
  cases hlf : n.leaf with
  | true =>
    have hG := Lib.hid (fun W (hW : TM (r + 1 + 1) σ W) => M.get hW hv 1 (fun _ => rfl) (fun h => by rw [hlf] at h; cases h))
    have hk : Nd.kind n = 1 := by unfold Nd.kind; rw [if_pos hlf]
    have hD := Lib.hid (fun W => ndecode_any n hfit W)
    rw [hk] at hD
    generalize Nd.str (Nd.enc n) = s at *
    have H1 := Lib.hid h1
    have HBG := Lib.hid hBg
    have HB1 := Lib.hid hb1
    clear hlf hk h1 hBg hb1 hfit hv h M
    go_enter Tryz.func49, Tryz.ntmps49
    go_wp2_with fail
    refine (hG.out _ H1.out.tm).mono ?_
    rintro e w1 ⟨rfl, ht1, hf1⟩
    have h1 := H1.out.step HM.out ht1 hf1
    have hBg := hf1.blk HBG.out (HM.out.far hsz)
    have hfw : Fr S w w1 := (Fr.of_below HB1.out).trans hf1
    have hz1 := hf1.size
    have H2 := Lib.hid h1
    have HBG := Lib.hid hBg
    have HFW := Lib.hid hfw
    clear ht1 hf1 h1 hBg hfw
    simp only [World.size_alloc] at hz1
    go_wp2_with fail
    refine (hD.out _).mono ?_
    rintro e w2 ⟨v, rfl, hnf, hb2⟩
    have hz2 := hb2.size
    have h2 := H2.out.below HM.out hb2
    have hBg := HBG.out.below hb2 HBG.out.lt
    have hfw := HFW.out.trans (.of_below hb2)
    obtain ⟨A1, k1, A2, k2, A3, k3, rfl, rr⟩ := hnf
    have f0 := hBg.frozen 0
    have f1 := hBg.frozen 1
    have f2 := hBg.frozen 2
    have f3 := hBg.frozen 3
    have c0 := hBg.cell 0
    have c1 := hBg.cell 1
    have c2 := hBg.cell 2
    have c3 := hBg.cell 3
    have lg := hBg.lt
    have H3 := Lib.hid h2
    have HBG := Lib.hid hBg
    have HFW := Lib.hid hfw
    have HRR := Lib.hid rr
    clear h2 hBg hfw rr hb2
    unfold nodeV
    go_wp2
    try simp only [Exit.inBlock, Exit.then]
    refine bodyPost_ret (res_cell_tmp node_struct rfl rfl (HBG.out.put4 _ _ _ _) rfl) rfl ?_
    have hfr : ∀ a b c d, Fr (fun k => k = w.heap.size) w2 _ := fun a b c d => Fr.put4 (w := w2) (g := w.heap.size) (S := fun k => k = w.heap.size) rfl a b c d
    exact ⟨_, rfl, NF.lower (NF.fr ⟨A1, k1, A2, k2, A3, k3, rfl, HRR.out⟩ (hfr _ _ _ _) (fun k hk => by omega)) (by omega), (H3.out.less HM.out (Nat.le_succ _)).own HM.out (hfr _ _ _ _) HBG.out hsz (by omega) (by decide) (by decide) (by decide) (by decide), Fr.old (S' := fun k => S k ∨ k = w.heap.size) ((HFW.out.more fun _ => .inl).trans ((hfr _ _ _ _).more fun _ => .inr)) (fun k hk => hk.imp_right fun e => by omega)⟩
  | false =>
    have hN := Lib.hid (fun W (hW : TM (r + 1 + 1) σ W) => M.getN hW hv hlf)
    have hG := Lib.hid (fun W (hW : TM (r + 1) σ W) => M.get hW hv 2 (fun h => by rw [hlf] at h; cases h) (fun _ => rfl))
    have hk : Nd.kind n = 2 := by unfold Nd.kind; rw [if_neg (by rw [hlf]; simp)]
    have hD := Lib.hid (fun W => ndecode_any n hfit W)
    rw [hk] at hD
    generalize Nd.str (Nd.enc n) = s at *
    have H1 := Lib.hid h1
    have HBG := Lib.hid hBg
    have HB1 := Lib.hid hb1
    clear hlf hk h1 hBg hb1 hfit hv h M
    go_enter Tryz.func49, Tryz.ntmps49
    go_wp2_with fail
    refine (hN.out _ H1.out.tm).mono ?_
    rintro e w0 ⟨rfl, ht0, hf0⟩
    have h0 := H1.out.step HM.out ht0 hf0
    have c00 : w0.cell? ⟨u, 0, none⟩ = some (.pointer (some ⟨t, 0, none⟩)) := h0.self.cell 0
    have lu0 := h0.self.lt
    have H0 := Lib.hid h0
    have HF0 := Lib.hid hf0
    have hz0 := hf0.size
    simp only [World.size_alloc] at hz0
    clear ht0 hf0 h0
    go_wp2_with fail
    refine (hG.out _ H0.out.tm).mono ?_
    rintro e w1 ⟨rfl, ht1, hf1⟩
    have h1 := H0.out.step HM.out ht1 hf1
    have hBg := (HF0.out.trans hf1).blk HBG.out (HM.out.far hsz)
    have hfw : Fr S w w1 := ((Fr.of_below HB1.out).trans HF0.out).trans hf1
    have hz1 := hf1.size
    have H2 := Lib.hid h1
    have HBG := Lib.hid hBg
    have HFW := Lib.hid hfw
    clear ht1 hf1 h1 hBg hfw
    go_wp2_with fail
    refine (hD.out _).mono ?_
    rintro e w2 ⟨v, rfl, hnf, hb2⟩
    have hz2 := hb2.size
    have h2 := H2.out.below HM.out hb2
    have hBg := HBG.out.below hb2 HBG.out.lt
    have hfw := HFW.out.trans (.of_below hb2)
    obtain ⟨A1, k1, A2, k2, A3, k3, rfl, rr⟩ := hnf
    have f0 := hBg.frozen 0
    have f1 := hBg.frozen 1
    have f2 := hBg.frozen 2
    have f3 := hBg.frozen 3
    have c0 := hBg.cell 0
    have c1 := hBg.cell 1
    have c2 := hBg.cell 2
    have c3 := hBg.cell 3
    have lg := hBg.lt
    have H3 := Lib.hid h2
    have HBG := Lib.hid hBg
    have HFW := Lib.hid hfw
    have HRR := Lib.hid rr
    clear h2 hBg hfw rr hb2
    unfold nodeV
    go_wp2
    try simp only [Exit.inBlock, Exit.then]
    refine bodyPost_ret (res_cell_tmp node_struct rfl rfl (HBG.out.put4 _ _ _ _) rfl) rfl ?_
    have hfr : ∀ a b c d, Fr (fun k => k = w.heap.size) w2 _ := fun a b c d => Fr.put4 (w := w2) (g := w.heap.size) (S := fun k => k = w.heap.size) rfl a b c d
    exact ⟨_, rfl, NF.lower (NF.fr ⟨A1, k1, A2, k2, A3, k3, rfl, HRR.out⟩ (hfr _ _ _ _) (fun k hk => by omega)) (by omega), H3.out.own HM.out (hfr _ _ _ _) HBG.out hsz (by omega) (by decide) (by decide) (by decide) (by decide), Fr.old (S' := fun k => S k ∨ k = w.heap.size) ((HFW.out.more fun _ => .inl).trans ((hfr _ _ _ _).more fun _ => .inr)) (fun k hk => hk.imp_right fun e => by omega)⟩
end
end Go.Proofs.YtpfplojkiloldaaGreatDoor
namespace Go.Proofs.YtpfplojkiloldaaGreatDoor
open Go.RowKit Go.Shelf
theorem nencode_any (v : Value) (n : Nd.Node) (hfit : Nd.fits n = true) (w : World) (h : NS w v n) (hb : NB n) :
    Calls Tryz.prog 31 #[v] w fun e w' => e = .returned (.tuple #[.int .u8 (Nd.kind n : Nat), .string (Nd.str (Nd.enc n)), .int .i64 0]) ∧ Below w.heap.size w w' := by
  have h0 := h
  obtain ⟨Ae, ce, Ai, ci, Ay, cy, rfl, h1, h2, h3⟩ := h
  cases hlf : n.leaf with
  | true =>
    have hk : Nd.kind n = 1 := by unfold Nd.kind; rw [if_pos hlf]
    rw [hk]
    rw [hlf] at h0
    exact nencode_leaf Ae Ai Ay ce ci cy n hlf hfit w h0 h1 hb
  | false =>
    have hk : Nd.kind n = 2 := by unfold Nd.kind; rw [if_neg (by rw [hlf]; simp)]
    rw [hk]
    rw [hlf] at h0
    exact nencode_inner Ae Ai Ay ce ci cy n hlf hfit w h0 h2 h3 hb
section
variable {S : Nat → Prop} {B t : Nat} {room : Int} {disk : Tp.Disk} {TM : Nat → Tp.Pst → World → Prop}
/-- how save ends -/
def SaveEnd (S : Nat → Prop) (B t u : Nat) (TM : Nat → Tp.Pst → World → Prop) (root er : Int) (r : Nat) (o : Except Int Int × Tp.Pst) (w : World) (e : Ending) (w' : World) : Prop :=
  ∃ p x : Int, e = .returned (.tuple #[.int .i64 p, .int .i64 x]) ∧ ((o.1 = .ok p ∧ x = 0 ∧ IdOk p) ∨ (o.1 = .error 2 ∧ x = 2)) ∧ On S B t u TM root er r o.2 w' ∧ Fr S w w'
set_option maxRecDepth 100000 in
set_option maxHeartbeats 1000000 in
theorem save_any (M : Mach S B t room disk TM) (u : Nat) (root er : Int) (r : Nat) (σ : Tp.Pst) (id : Int) (hid : IdOk id) (v : Value) (n : Nd.Node) (hfit : Nd.fits n = true) (w : World) (hns : NS w v n) (h : On S B t u TM root er r σ w) :
    Calls Tryz.prog 111 #[.pointer (some ⟨u, 0, none⟩), .int .i64 id, v] w (SaveEnd S B t u TM root er r (Tp.pSave room σ id n) w) := by
  have hnb := fits_nb hfit
  obtain ⟨Ae, ce, Ai, ci, Ay, cy, rfl, q1, q2, q3⟩ := hns
  unfold nodeV
  have hb1 := (Below.refl w.heap.size w).alloc (Nat.le_refl _) (.cells #[.bool n.leaf, .slice Ae n.ents.length ce, .slice Ai n.kids.length ci, .slice Ay n.keys.length cy] 58)
  have hE := Lib.hid (fun W (hbW : Below w.heap.size w W) => nencode_any (.agg #[.bool n.leaf, .slice Ae n.ents.length ce, .slice Ai n.kids.length ci, .slice Ay n.keys.length cy]) n hfit W ⟨Ae, ce, Ai, ci, Ay, cy, rfl, q1.up hbW, q2.up hbW, q3.up hbW⟩ hnb)
  have hBg := Blk.new w 58 #[.bool n.leaf, .slice Ae n.ents.length ce, .slice Ai n.kids.length ci, .slice Ay n.keys.length cy]
  have lg := hBg.lt
  have g0 := hBg.cell 0
  have g1 := hBg.cell 1
  have g2 := hBg.cell 2
  have g3 := hBg.cell 3
  have hsz := M.size h.tm
  have HM := Lib.hid M
  have hkd1 : n.leaf = true → Nd.kind n = 1 := fun h => by unfold Nd.kind; rw [if_pos h]
  have hkd2 : n.leaf = false → Nd.kind n = 2 := fun h => by unfold Nd.kind; rw [if_neg (by rw [h]; simp)]
  have HPUT := Lib.hid (fun σ id W (hT : TM r σ W) (h1 : IdOk id) (h2 : id ∈ σ.mine) => M.put hT h1 h2 hfit (Nd.kind n) hkd1 hkd2)
  generalize Nd.str (Nd.enc n) = s at *
  generalize Nd.kind n = kd at *
  have H1 := Lib.hid (h.below M hb1)
  have HB1 := Lib.hid hb1
  have HFIT := Lib.hid hfit
  obtain ⟨o, ho⟩ : ∃ o, o = Tp.pSave room σ id n := ⟨_, rfl⟩
  rw [← ho]
  have HO := Lib.hid ho
  have HFR := Lib.hid (fun r σ W (hT : TM r σ W) => M.fresh id hT hid)
  have HID := Lib.hid hid
  clear hb1 hBg hkd1 hkd2 hnb hfit h M ho hid q1 q2 q3
  go_enter Tryz.func111, Tryz.ntmps111
  go_wp2_with fail
  refine (hE.out _ HB1.out).mono ?_
  rintro e w1 ⟨rfl, hb2⟩
  have h2 := H1.out.below HM.out hb2
  have c0 : w1.cell? ⟨u, 0, none⟩ = some (.pointer (some ⟨t, 0, none⟩)) := h2.self.cell 0
  have lu := h2.self.lt
  have hfw : Fr S w w1 := (Fr.of_below HB1.out).trans (.of_below hb2)
  have H2 := Lib.hid h2
  have HF := Lib.hid hfw
  clear h2 hfw hb2 g0 g1 g2 g3 lg
  go_wp2_with fail
  refine (HFR.out _ _ _ H2.out.tm).mono ?_
  rintro e w2 ⟨rfl, ht2, hf2⟩
  have h3 := H2.out.step HM.out ht2 hf2
  have c0 : w2.cell? ⟨u, 0, none⟩ = some (.pointer (some ⟨t, 0, none⟩)) := h3.self.cell 0
  have lu := h3.self.lt
  have hfw : Fr S w w2 := HF.out.trans hf2
  have H3 := Lib.hid h3
  have HF3 := Lib.hid hfw
  clear h3 hfw ht2 hf2
  by_cases hm : id ∈ σ.mine
  · have hdm : decide (id ∈ σ.mine) = true := decide_eq_true hm
    rw [hdm]
    have HP := Lib.hid (HPUT.out σ id w2 H3.out.tm HID.out hm)
    have hoo : o = (.ok id, σ.put id n) := by rw [HO.out]; unfold Tp.pSave; rw [if_neg (by rw [HFIT.out]; simp), if_pos hm]
    have HOO := Lib.hid hoo
    clear hm hdm hoo
    go_wp2_with fail
    refine HP.out.mono ?_
    rintro e w3 ⟨rfl, ht3, hf3⟩
    have HEND := Lib.hid (show On S B t u TM root er r o.2 w3 ∧ Fr S w w3 from ⟨by rw [HOO.out]; exact H3.out.step HM.out ht3 hf3, HF3.out.trans hf3⟩)
    clear ht3 hf3
    go_wp2
    go_ret2
    exact ⟨id, 0, rfl, .inl ⟨by rw [HOO.out], rfl, HID.out⟩, HEND.out⟩
  · have hdm : decide (id ∈ σ.mine) = false := decide_eq_false hm
    rw [hdm]
    cases ha : Tp.pAlloc room σ with
    | none =>
      have hA := Lib.hid (HM.out.full H3.out.tm ha)
      have hoo : o = (.error 2, σ) := by rw [HO.out]; unfold Tp.pSave; rw [if_neg (by rw [HFIT.out]; simp), if_neg hm, ha]
      have HOO := Lib.hid hoo
      clear hm hdm ha hoo
      go_wp2_with fail
      refine hA.out.mono ?_
      rintro e w3 ⟨rfl, ht3, hf3⟩
      have HEND := Lib.hid (show On S B t u TM root er r o.2 w3 ∧ Fr S w w3 from ⟨by rw [HOO.out]; exact H3.out.step HM.out ht3 hf3, HF3.out.trans hf3⟩)
      clear ht3 hf3
      go_wp2
      go_ret2
      exact ⟨0, 2, rfl, .inr ⟨by rw [HOO.out], rfl⟩, HEND.out⟩
    | some p =>
      obtain ⟨id', σ'⟩ := p
      have hA := Lib.hid (HM.out.alloc H3.out.tm ha)
      have hoo : o = (.ok id', σ'.put id' n) := by rw [HO.out]; unfold Tp.pSave; rw [if_neg (by rw [HFIT.out]; simp), if_neg hm, ha]
      have HOO := Lib.hid hoo
      clear hm hdm ha hoo
      go_wp2_with fail
      refine hA.out.mono ?_
      rintro e w3 ⟨rfl, hid', hmem, ht3, hf3⟩
      have h4 := H3.out.step HM.out ht3 hf3
      have c0 : w3.cell? ⟨u, 0, none⟩ = some (.pointer (some ⟨t, 0, none⟩)) := h4.self.cell 0
      have lu := h4.self.lt
      have HP := Lib.hid (HPUT.out σ' id' w3 ht3 hid' hmem)
      have H4 := Lib.hid h4
      have HF4 := Lib.hid (HF3.out.trans hf3)
      have HID' := Lib.hid hid'
      clear h4 ht3 hf3 hmem hid'
      go_wp2_with fail
      refine HP.out.mono ?_
      rintro e w4 ⟨rfl, ht4, hf4⟩
      have HEND := Lib.hid (show On S B t u TM root er r o.2 w4 ∧ Fr S w w4 from ⟨by rw [HOO.out]; exact H4.out.step HM.out ht4 hf4, HF4.out.trans hf4⟩)
      clear ht4 hf4
      go_wp2
      go_ret2
      exact ⟨id', 0, rfl, .inl ⟨by rw [HOO.out], rfl, HID'.out⟩, HEND.out⟩
end
end Go.Proofs.YtpfplojkiloldaaGreatDoor
