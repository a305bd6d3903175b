/- The walk of alloc's Flush. -/
import Derived.Deep.RegionWith
import Derived.Test.YtlgbcogdogpihaaGreatDoorQGet
import Derived.Test.YtlgbcogdogpihaaGreatDoorQSync
import Derived.Test.YtlgbcogdogpihaaGreatDoorQLim
import Derived.Test.YtlgbcogdogpihaaGreatDoorQTaken
import Derived.Test.YtlgbcogdogpihaaGreatDoorQGj
namespace Go.Proofs.YtlgbcogdogpihaaGreatDoor
open Go.RowKit Go.Shelf Go.Maps
section
variable {w w' : World} {B f d k kf t m m0 n : Nat} {Dd : Dk} {free : List Run} {pages : Int} {D : DataW Value}
theorem FAt.fileOf (h : FAt w B f d kf Dd) : FileOf w f Dd.sure.length := ⟨d, h.self, h.disk.of_⟩
theorem own_keptR {base : Nat} {v : Value} {l : List Run} (h : Own w base v l) (hk : Kept w w') : Own w' base v l := by
  rcases h with ⟨h3, h4 | ⟨g, cap, cur, hv, hb, hh, r⟩⟩
  · exact ⟨h3, .inl h4⟩
  · exact ⟨h3, .inr ⟨g, cap, cur, hv, hb, hk g _ _ hh (by decide) (by decide), r⟩⟩
/-- a change in memory lies as it lay where a file was written -/
theorem Txn.keepW (h : Txn w t m f n free pages k D) (hk : Kept w w') (ho : OthM m0 w w') (hm : m ≠ m0) (hF : FAt w' B f d kf Dd) (hn : Dd.sure.length = n) : Txn w' t m f n free pages k D := by
  obtain ⟨h1, ⟨v, h2, h3⟩, es, c, h4, h5⟩ := h
  exact ⟨hn ▸ hF.fileOf, ⟨v, hk _ _ _ h2 (by decide) (by decide), own_keptR h3 hk⟩, es, c, ho m _ h4 rfl hm, h5⟩
end
/-- pages written one behind the other -/
def flR (D : Dk) (q : Nat) (bd : Int → Bs) (ss : List Int) : Dk := ss.foldl (fun D id => D.fput id q (bd id)) D
theorem flR_succ (D : Dk) (q : Nat) (bd : Int → Bs) (ss : List Int) (j : Nat) (hj : j < ss.length) : flR D q bd (ss.take (j + 1)) = (flR D q bd (ss.take j)).fput ss[j] q (bd ss[j]) := by
  unfold flR
  rw [List.take_succ_eq_append_getElem hj, List.foldl_append]
  rfl
theorem fput_len (D : Dk) (id : Int) (q : Nat) (b : Bs) : (D.fput id q b).sure.length = D.sure.length := by
  unfold Dk.fput Dk.wrote
  split
  · rfl
  · split
    · rfl
    · split
      · rfl
      · split
        · rfl
        · split <;> rfl
theorem flR_len (q : Nat) (bd : Int → Bs) (ss : List Int) : ∀ D : Dk, (flR D q bd ss).sure.length = D.sure.length := by
  induction ss with
  | nil => intro D; rfl
  | cons a r ih => intro D; show (flR (D.fput a q (bd a)) q bd r).sure.length = _; rw [ih, fput_len]
/-- how Flush ends -/
def FlEnd (B f d k : Nat) (s m : Nat) (D' : Dk) (w : World) (e : Ending) (w' : World) : Prop := e = .returned (.int .i64 0) ∧ FAt w' B f d k D' ∧ Below B w w' ∧ (∀ (g : Nat) (t : TypeId) (cs : Array Value), Blk w g t cs → t ≠ 84 → t ≠ 160 → g ≠ s → Blk w' g t cs) ∧ (∀ g es c, g ≠ m → w.heap[g]? = some (.map es c) → w'.heap[g]? = some (.map es c))
set_option maxRecDepth 100000 in
set_option maxHeartbeats 1000000 in
theorem tflush_any {w : World} {B f d kf t m s m0 n k N : Nat} {Dd : Dk} {free : List Run} {pages : Int} {D : DataW Value} (q : Nat) (hq : q < 256) (bd : Int → Bs) (h : Txn w t m f n free pages k D) (hF : FAt w B f d kf Dd) (hn : Dd.sure.length = n)
    (hc0 : w.cell? ⟨d, 0, none⟩ = some (.slice (some ⟨s, 0, none⟩) n n)) (hc1 : w.cell? ⟨d, 1, none⟩ = some (.map (some m0))) (hmm : m ≠ m0)
    (hL : Lim Dd N) (hN : N + 1000 < 1000000) (hk : k ≤ 1000) (hkf : kf + 1000 < maxLen) (hT : HT w) (hB0 : 0 < B) (hB : B ≤ w.heap.size)
    (hD : ∀ x ∈ intKeys D, (Lit.int .i64 x).wf = true ∧ ∀ z, D.atKey (.int .i64 x) z = .held (content true q ⟨(bd x).toArray⟩))
    (hE : ∀ ss : List Int, ss.Perm (intKeys D) → ∀ j (hj : j < ss.length), (flR Dd q bd (ss.take j)).fputE ss[j] (bd ss[j]) = 0)
    (hS : ∀ ss : List Int, ss.Perm (intKeys D) → WellD (flR Dd q bd ss) ∧ (flR Dd q bd ss).down = false) :
    Calls Tryz.prog 32 #[.pointer (some ⟨t, 0, none⟩)] w fun e w' => ∃ ss : List Int, ss.Perm (intKeys D) ∧ FlEnd B f d 0 s m0 (flR Dd q bd ss).synced w e w' := by
  have htk := taken_list t m f n k free pages D w (by omega) h
  have hsz := h.map.size_le
  have HD := Lib.hid hD
  have HE := Lib.hid hE
  have HS := Lib.hid hS
  clear hD hE hS
  go_enter Tryz.func32, Tryz.ntmps32
  go_wp2_with fail
  refine Calls.mono htk ?_
  rintro e w1 ⟨A, c, ss, rfl, hpm, hsl, hss, hb1⟩
  have hT1 := h.below hb1
  have hF1 := hF.keep hb1
  have hM1 := MapStep.below hb1 hF.disk.dlt
  have hbB := hb1.mono hB
  have hw1 := Nat.le_trans hB hb1.size
  have HPM := Lib.hid hpm
  clear hpm
  go_wp2
  go_loopw [10] (fun i wr => ∃ j : Nat, j ≤ ss.length ∧ i = .int .i64 j ∧ FAt wr B f d (kf + j) (flR Dd q bd (ss.take j)) ∧ Lim (flR Dd q bd (ss.take j)) (N + j) ∧ Txn wr t m f n free pages k D ∧ Kept w1 wr ∧ MapStep d w1 wr ∧ Below B w1 wr) (fun i _ => ss.length - (intOf i).toNat)
  case atStart => exact ⟨0, by omega, rfl, hF1, hL, hT1, Kept.refl _, MapStep.refl _ _, Below.refl _ _⟩
  case round =>
    obtain ⟨j, hj, rfl, hFr, hLr, hTr, hKr, hMr, hBr⟩ := hrel
    by_cases hlt : j < ss.length
    · obtain ⟨b2, o2, rfl, hb2, g0⟩ := (hss.kept hKr (by decide) (by decide)).ls.int hlt
      obtain ⟨hwf, hat⟩ := HD.out _ (HPM.out.mem_iff.1 (List.getElem_mem hlt))
      have hfe := HE.out ss HPM.out j hlt
      have hsu := flR_succ Dd q bd ss j hlt
      have HFL := Lib.hid (flR_len q bd (ss.take (j + 1)) Dd)
      have hLf := hLr.fput ss[j] q (bd ss[j])
      rw [← hsu] at hLf
      generalize ss[j] = y at *
      obtain ⟨u, ps, hlook, hu⟩ := hTr.map.lookup keyedI Tryz.underlying115 (Tryz.zeroValue122 wr) (heldR_mk _ _ _) (keyI hwf)
      rw [hat] at hu
      obtain ⟨b', q', s', rfl, hz⟩ := heldR_inv hu
      have hz := (Prod.mk.inj hz).1
      injection hz with hz
      rw [← hz] at hlook
      clear hu hz hat
      have hTr' := hTr
      obtain ⟨_, ⟨vf, h2, _⟩, _⟩ := hTr'
      have hlt2 := h2.lt
      have hc3 := h2.cell 3
      have hcf := h2.cell 0
      unfold content at hlook
      have hbA : Below wr.heap.size wr (wr.alloc (.cells #[.bool true, .int .u8 (q : Int), .string ⟨(bd y).toArray⟩] 122)) := (Below.refl _ wr).alloc (Nat.le_refl _) _
      have hlink := Blk.new wr 122 #[.bool true, .int .u8 (q : Int), .string ⟨(bd y).toArray⟩]
      have hwr := Nat.le_trans hw1 hBr.size
      have hfw := fun W (h1 : FAt W B f d (kf + j) (flR Dd q bd (ss.take j))) (h2 : HT W) (h3 : B ≤ W.heap.size) => fwrite_any2 h1 (hLr.fine (by omega)) (by omega) h2 h3 y q hq (bd y)
      rw [hfe, ← hsu] at hfw
      unfold FWEnd2 str at hfw
      have HFW := Lib.hid hfw
      clear hfw hfe
      have hk0 := (h2.alloc (.cells #[.bool true, .int .u8 (q : Int), .string ⟨(bd y).toArray⟩] 122)).cell 0
      have hk1 := hlink.cell 1
      have hk2 := hlink.cell 2
      have hFa := (hFr.keep hbA).keepF (w' := (wr.alloc (.cells #[.bool true, .int .u8 (q : Int), .string ⟨(bd y).toArray⟩] 122)).drew) ⟨fun _ _ _ h _ => h, fun _ _ _ h => h⟩
      have hTa : HT (wr.alloc (.cells #[.bool true, .int .u8 (q : Int), .string ⟨(bd y).toArray⟩] 122)).drew := (((hT.below hbB hB0).below hBr hB0).below (hbA.mono hwr).drew hB0)
      have hBa : B ≤ (wr.alloc (.cells #[.bool true, .int .u8 (q : Int), .string ⟨(bd y).toArray⟩] 122)).drew.heap.size := by have := hbA.size; exact Nat.le_trans hwr this
      have hTxa := hTr.below hbA
      have hKa := hKr.trans (Kept.below hbA)
      have hMa := hMr.trans (MapStep.below hbA hFr.disk.dlt)
      have hBBa := hBr.trans (hbA.mono hwr)
      generalize flR Dd q bd (ss.take j) = Dj at *
      have hcont := HFW.out _ hFa hTa hBa
      have hKd : Kept w1 (wr.alloc (.cells #[.bool true, .int .u8 (q : Int), .string ⟨(bd y).toArray⟩] 122)).drew := hKa
      have hMd : MapStep d w1 (wr.alloc (.cells #[.bool true, .int .u8 (q : Int), .string ⟨(bd y).toArray⟩] 122)).drew := ⟨hMa.cell, hMa.oth, hMa.row⟩
      have hBd := hBBa.drew
      have hTd : Txn (wr.alloc (.cells #[.bool true, .int .u8 (q : Int), .string ⟨(bd y).toArray⟩] 122)).drew t m f n free pages k D := hTr.below hbA.drew
      have hom1 := hMd.1.trans (hM1.1.trans hc1)
      have hk0d : (wr.alloc (.cells #[.bool true, .int .u8 (q : Int), .string ⟨(bd y).toArray⟩] 122)).drew.cell? ⟨t, 0, none⟩ = some (.pointer (some ⟨f, 0, none⟩)) := hk0
      have hk1d : (wr.alloc (.cells #[.bool true, .int .u8 (q : Int), .string ⟨(bd y).toArray⟩] 122)).drew.cell? ⟨wr.heap.size, 1, none⟩ = some (.int .u8 (q : Int)) := hk1
      have hk2d : (wr.alloc (.cells #[.bool true, .int .u8 (q : Int), .string ⟨(bd y).toArray⟩] 122)).drew.cell? ⟨wr.heap.size, 2, none⟩ = some (.string ⟨(bd y).toArray⟩) := hk2
      go_wp2
      go_region_with (go_at_call 18; refine hcont.mono ?_; rintro e w2 ⟨rfl, gF, gB, gK, gM⟩)
      all_goals go_wp2
      all_goals go_roundw
      all_goals try (simp [intOf]; omega)
      all_goals exact ⟨j + 1, by omega, by go_num, gF, hLf, Txn.keepW (m0 := m0) hTd gK (gM.2 m0 hom1) hmm gF (by rw [HFL.out, hn]), hKd.trans gK, hMd.trans gM, hBd.trans gB⟩
    · obtain rfl : j = ss.length := by omega
      rw [List.take_of_length_le (Nat.le_refl _)] at hFr hLr
      obtain ⟨hW, hdn⟩ := HS.out ss HPM.out
      obtain ⟨s', m', pv, Dm, hDA⟩ := hFr.disk
      have hseq : s' = s := by
        have e1 := hDA.self.cell 0
        have e2 := hMr.row.trans (hM1.row.trans hc0)
        simp only [dkCells] at e1
        rw [e2] at e1
        have e3 : Value.slice (some ⟨s, 0, none⟩) n n = Value.slice (some ⟨s', 0, none⟩) (flR Dd q bd ss).sure.length (flR Dd q bd ss).sure.length := by simpa using e1
        injection e3 with e3
        injection e3 with e3
        injection e3 with e3
        exact e3.symm
      subst hseq
      have hmeq : m' = m0 := by
        have e1 := hDA.self.cell 1
        have e2 := hMr.1.trans (hM1.1.trans hc1)
        simp only [dkCells] at e1
        rw [e2] at e1
        simpa using e1.symm
      subst hmeq
      have hpl := hLr.pend
      have hsy := sync_any hDA hW hdn (by omega)
      have hcf := hFr.self.cell 0
      obtain ⟨_, ⟨vf, h2, _⟩, _⟩ := id hTr
      have hct := h2.cell 0
      have hfin : ∀ e w3, (e = .returned (.int .i64 0) ∧ DAt w3 B d 0 (flR Dd q bd ss).synced s' m' (.slice none 0 0) (.map []) ∧ Touch3 d s' m' wr w3) → FlEnd B f d 0 s' m' (flR Dd q bd ss).synced w e w3 := by
        rintro e w3 ⟨rfl, gD, gT⟩
        have t1 : ∀ {g : Nat} {ty : TypeId} {cs : Array Value}, Blk wr g ty cs → ty ≠ 84 → g ≠ s' → Blk w3 g ty cs := fun {g ty cs} hb n1 n2 =>
          (gT.block g hb.lt (hb.ne_ hDA.self n1) n2 (fun e => hDA.mne hb e.symm)).trans hb
        refine ⟨rfl, ⟨hFr.le, t1 hFr.self (by decide) (hFr.self.ne_ hDA.sure (by decide)), ⟨s', m', _, _, gD⟩⟩, (hbB.trans hBr).trans ⟨gT.os, gT.tape, gT.output, gT.size, fun g hg => ?_⟩, fun g ty cs hb n1 n2 n3 => t1 (hKr g ty cs (Kept.below hb1 g ty cs hb n1 n2) n1 n2) n1 n3, fun g es c hne hb => ?_⟩
        · obtain ⟨l1, l2, l3⟩ := hDA.le
          exact gT.block g (by have := hDA.self.lt; omega) (by omega) (by omega) (by omega)
        · have b1 : w1.heap[g]? = some (.map es c) := (hb1.block g (Array.getElem?_eq_some_iff.1 hb).1).trans hb
          have b2 := hMr.2 m' (hM1.1.trans hc1) g _ b1 rfl hne
          exact (gT.block g (Array.getElem?_eq_some_iff.1 b2).1 (fun e => by subst e; have := hDA.self; unfold Blk at this; rw [b2] at this; cases this) (fun e => by subst e; have := hDA.sure; unfold Blk at this; rw [b2] at this; cases this) hne).trans b2
      have HFIN := Lib.hid (fun e w3 h => (⟨ss, HPM.out, hfin e w3 h⟩ : ∃ ss : List Int, ss.Perm (intKeys D) ∧ FlEnd B f d 0 s' m' (flR Dd q bd ss).synced w e w3))
      clear hfin
      go_wp2_with fail
      refine Calls.mono hsy ?_
      rintro e w3 hS3
      obtain rfl := hS3.1
      have hlast := HFIN.out _ _ hS3
      clear hS3
      go_wp2
      exact bodyPost_ret (v := .int .i64 0) (by simp [results, Tryz.f32, go_sem]) rfl hlast
end Go.Proofs.YtlgbcogdogpihaaGreatDoor
