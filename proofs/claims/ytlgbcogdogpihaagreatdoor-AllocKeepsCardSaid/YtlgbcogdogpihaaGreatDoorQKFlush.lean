/- What AllocKeeps has of Flush. -/
import Derived.Test.YtlgbcogdogpihaaGreatDoorQKeysA
namespace Go.Proofs.YtlgbcogdogpihaaGreatDoor
open Go.RowKit Go.Shelf
theorem Lim.flR {q : Nat} (bd : Int → Bs) (ss : List Int) : ∀ {D : Dk} {N : Nat}, Lim D N → Lim (flR D q bd ss) (N + ss.length) := by
  induction ss with
  | nil => intro D N h; exact h
  | cons a r ih =>
    intro D N h
    have := ih (h.fput a q (bd a))
    rw [List.length_cons, show N + (r.length + 1) = N + 1 + r.length by omega]
    exact this
theorem Lim.synced {D : Dk} {N : Nat} (h : Lim D N) : Lim D.synced N :=
  ⟨by show (doneL D.sure D.pend).length ≤ 16384; rw [doneL_len]; exact h.n, h.writes, h.reads, h.left, Nat.zero_le _⟩
/-- what AllocKeeps has of Flush -/
def KFl (B f d s m0 : Nat) (D : Dk) (c : Int → Option (Nat × Bs)) (ids : List Int) (puts : List Bs) (w : World) (e : Ending) (w' : World) : Prop := e = .returned (.int .i64 0) ∧ ∃ D' c', FAt w' B f d 0 D' ∧ D'.writes = D.writes + (ids.length : Int) ∧ D'.pend = [] ∧ DkC D' 16 c' ∧ (∀ i, c' i = updL c 2 (bdOf ids puts) ids i) ∧ Lim D' 100 ∧ Below B w w' ∧ (∀ (g : Nat) (t : TypeId) (cs : Array Value), Blk w g t cs → t ≠ 84 → t ≠ 160 → g ≠ s → Blk w' g t cs) ∧ (∀ g es c, g ≠ m0 → w.heap[g]? = some (.map es c) → w'.heap[g]? = some (.map es c))
theorem keeps_flush {w : World} {B f d kf t m s m0 k : Nat} {D : Dk} {c : Int → Option (Nat × Bs)} {fr used : List Run} {p : Int} {D2 : DataW Value} {ids : List Int} {puts : List Bs}
    (h : Txn w t m f 16 fr p k D2) (hF : FAt w B f d kf D) (hC : DkC D 16 c) (hL : Lim D 16) (hkf : kf ≤ 100) (hap : Rp.Ap (max ((16 : Nat) : Int) 2) fr used ids p) (hk : KeysAre D2 ids) (hco : Conts D2 2 ids puts) (hsh : ∀ b ∈ puts, b.length ≤ 240) (hi : ids.length ≤ 30) (hk2 : k ≤ 100)
    (hc0 : w.cell? ⟨d, 0, none⟩ = some (.slice (some ⟨s, 0, none⟩) 16 16)) (hc1 : w.cell? ⟨d, 1, none⟩ = some (.map (some m0))) (hmm : m ≠ m0) (hT : HT w) (hB0 : 0 < B) (hB : B ≤ w.heap.size) :
    Calls Tryz.prog 32 #[.pointer (some ⟨t, 0, none⟩)] w (KFl B f d s m0 D c ids puts w) := by
  have hpe := ids_perm h hk hap.nd
  have hpg : ∀ ss : List Int, ss.Perm (intKeys D2) → ∀ x ∈ ss, noPage 16 x = false ∧ (bdOf ids puts x).length ≤ 240 := by
    intro ss hss x hx
    have hx2 : x ∈ ids := (hpe.trans hss.symm).mem_iff.2 hx
    have hr := hap.hm x hx2
    have hg := hap.pg
    refine ⟨by unfold noPage; simp; omega, ?_⟩
    obtain ⟨j, hj, rfl⟩ := List.getElem_of_mem hx2
    rw [bdOf_at hco.1 hap.nd j hj]
    exact hsh _ (List.getElem_mem _)
  refine (tflush_any (N := 16) 2 (by decide) (bdOf ids puts) h hF hC.ok.size hc0 hc1 hmm hL (by omega) (by omega) (by unfold maxLen; omega) hT hB0 hB (fun x hx => ?_) (fun ss hss j hj => flR_err (by decide) _ ss hC (hpg ss hss) j hj) (fun ss hss => ?_)).mono ?_
  · have hx2 : x ∈ ids := hpe.mem_iff.2 hx
    have hr := hap.hm x hx2
    have hg := hap.pg
    refine ⟨wfI (by omega), fun z => ?_⟩
    obtain ⟨j, hj, rfl⟩ := List.getElem_of_mem hx2
    rw [bdOf_at hco.1 hap.nd j hj]
    exact hco.2 j hj (by rw [← hco.1]; exact hj) z
  · obtain ⟨⟨c', k1, _⟩, _⟩ := flR_ok (n := 16) (q := 2) (by decide) (bdOf ids puts) ss D c hC (hpg ss hss)
    exact ⟨k1.well, k1.ok.down⟩
  · rintro e w' ⟨ss, hss, rfl, gF, gB, gK, gM⟩
    obtain ⟨⟨c', k1, k2⟩, k3⟩ := flR_ok (n := 16) (q := 2) (by decide) (bdOf ids puts) ss D c hC (hpg ss hss)
    have hp2 := hpe.trans hss.symm
    have hl := hp2.length_eq
    refine ⟨rfl, _, c', gF, ?_, rfl, k1.synced, fun i => ?_, ((hL.flR (q := 2) (bdOf ids puts) ss).synced).mono (by omega), gB, gK, gM⟩
    · show (flR D 2 (bdOf ids puts) ss).writes = _
      rw [k3, hl]
    · rw [k2 i]
      unfold updL
      by_cases e : i ∈ ss
      · rw [if_pos e, if_pos (hp2.mem_iff.2 e)]
      · rw [if_neg e, if_neg (fun e2 => e (hp2.mem_iff.1 e2))]
section
variable {w w' : World} {s m0 B f d : Nat}
theorem row_keepS (hK : ∀ (g : Nat) (t : TypeId) (cs : Array Value), Blk w g t cs → t ≠ 84 → t ≠ 160 → g ≠ s → Blk w' g t cs) {base e size c : Nat} {v : Value} {xs : List Value} (h : w.ownsRow base e size v c xs) (h1 : e ≠ 84) (h2 : e ≠ 160) (hne : ∀ g cs, Blk w g e cs → base ≤ g → g ≠ s) : w'.ownsRow base e size v c xs := by
  refine ⟨h.1, ?_⟩
  rcases h.2 with h0 | ⟨g, cap, cur, g1, g2, g3, g4⟩
  · exact .inl h0
  · exact .inr ⟨g, cap, cur, g1, g2, hK g e cur g3 h1 h2 (hne g cur g3 g2), g4⟩
theorem Txn.keepS {t m f n k kf : Nat} {free : List Run} {pages : Int} {D : DataW Value} {Dd : Dk} {cs : Array Value} (h : Txn w t m f n free pages k D) (hs : Blk w s 9 cs) (hK : ∀ (g : Nat) (t : TypeId) (cs : Array Value), Blk w g t cs → t ≠ 84 → t ≠ 160 → g ≠ s → Blk w' g t cs) (hM : ∀ g es c, g ≠ m0 → w.heap[g]? = some (.map es c) → w'.heap[g]? = some (.map es c)) (hm : m ≠ m0) (hF : FAt w' B f d kf Dd) (hn : Dd.sure.length = n) : Txn w' t m f n free pages k D := by
  obtain ⟨h1, ⟨v, h2, h3⟩, es, c, h4, h5⟩ := h
  exact ⟨hn ▸ hF.fileOf, ⟨v, hK _ _ _ h2 (by decide) (by decide) (h2.ne_ hs (by decide)), row_keepS hK h3 (by decide) (by decide) (fun g cs hb _ => hb.ne_ hs (by decide))⟩, es, c, hM m es c hm h4, h5⟩
end
/-- what reading keeps -/
def RdSt (B f d N : Nat) (c : Int → Option (Nat × Bs)) (w wr : World) : Prop := ∃ D, FAt wr B f d 0 D ∧ DkC D 16 c ∧ Lim D N ∧ Kept w wr ∧ Oth_ w wr ∧ Below B w wr
section
variable {B f d N : Nat} {c : Int → Option (Nat × Bs)} {w wr : World}
theorem RdSt.end_ {D : Dk} {id : Int} {x : Bs × Int} {e : Ending} {w' : World} (hC : DkC D 16 c) (hL : Lim D N) (hK : Kept w wr) (hO : Oth_ w wr) (hb : Below B w wr) (g : FREnd B f d 0 x (D.readD id) wr e w') : e = .returned (.tuple #[str x.1, .int .i64 x.2]) ∧ RdSt B f d (N + 1) c w w' := by
  obtain ⟨rfl, gF, gB, gK, gO, _⟩ := g
  exact ⟨rfl, _, gF, hC.readD id, hL.readD id, hK.trans gK, hO.trans gO, hb.trans gB⟩
theorem RdSt.mono {M : Nat} (h : RdSt B f d N c w wr) (hM : N ≤ M) : RdSt B f d M c w wr := by
  obtain ⟨D, hF, hC, hL, hK, hO, hb⟩ := h
  exact ⟨D, hF, hC, hL.mono hM, hK, hO, hb⟩
theorem RdSt.below {w' : World} (h : RdSt B f d N c w wr) (hB : B ≤ wr.heap.size) (hb2 : Below wr.heap.size wr w') : RdSt B f d N c w w' := by
  obtain ⟨D, hF, hC, hL, hK, hO, hb⟩ := h
  exact ⟨D, hF.keep hb2, hC, hL, hK.trans (Kept.below hb2), hO.trans (Oth_.below hb2), hb.trans (hb2.mono hB)⟩
theorem RdSt.txn {t m m0 k : Nat} {free : List Run} {pages : Int} {DD : DataW Value} (h : RdSt B f d N c w wr) (hx : Txn w t m f 16 free pages k DD) (hm : m ≠ m0) : Txn wr t m f 16 free pages k DD := by
  obtain ⟨D, hF, hC, hL, hK, hO, hb⟩ := h
  exact hx.keepW (m0 := m0) hK (fun k o hk h1 _ => hO k o hk h1) hm hF hC.ok.size
theorem kread (h : RdSt B f d N c w wr) (hN : N ≤ 1000) (hT : HT wr) (hB0 : 0 < B) (hB : B ≤ wr.heap.size) {id : Int} (hid : 2 ≤ id ∧ id < 16) (kind : Nat) (b : Bs) (hc : c id = some (kind, b)) :
    Calls Tryz.prog 34 #[.pointer (some ⟨f, 0, none⟩), .int .i64 id, .int .u8 kind] wr fun e w' => e = .returned (.tuple #[.string ⟨b.toArray⟩, .int .i64 0]) ∧ RdSt B f d (N + 1) c w w' := by
  obtain ⟨D, hF, hC, hL, hK, hO, hb⟩ := h
  have hno : noPage 16 id = false := by unfold noPage; simp; omega
  have hfr : frB D.sure.length D.down id kind (some (kind, b)) = (b, 0) := by unfold frB; rw [hC.ok.size, hno, hC.ok.down]; simp
  refine (fread_any hF (hL.fine (by omega)) hT hB0 hB id kind (some (kind, b)) (fun _ _ => hc ▸ hC.ok.page id hno)).mono fun e w' g => ?_
  rw [hfr] at g
  exact RdSt.end_ hC hL hK hO hb g
theorem kget {t m n k : Nat} {free : List Run} {pages : Int} {DD : DataW Value} (h : RdSt B f d N c w wr) (hx : Txn wr t m f n free pages k DD) (hN : N ≤ 1000) (hT : HT wr) (hB0 : 0 < B) (hB : B ≤ wr.heap.size) {id : Int} (hid : 2 ≤ id ∧ id < 16) (hip : id < pages) (hh : Maps.has DD (.int .i64 id) = false) (hno : Rp.has free id = false) (hl : free.length ≤ 80000) (kind : Nat) (b : Bs) (hc : c id = some (kind, b)) :
    Calls Tryz.prog 31 #[.pointer (some ⟨t, 0, none⟩), .int .i64 id, .int .u8 kind] wr fun e w' => e = .returned (.tuple #[.string ⟨b.toArray⟩, .int .i64 0]) ∧ RdSt B f d (N + 1) c w w' := by
  obtain ⟨D, hF, hC, hL, hK, hO, hb⟩ := h
  have hnp : noPage 16 id = false := by unfold noPage; simp; omega
  have hfr : frB D.sure.length D.down id kind (some (kind, b)) = (b, 0) := by unfold frB; rw [hC.ok.size, hnp, hC.ok.down]; simp
  refine (tget_file t m n k free pages DD id kind (wfI (by omega)) hh hid.1 hip hno hl wr hx hF (hL.fine (by omega)) hT hB0 hB (some (kind, b)) (fun _ _ => hc ▸ hC.ok.page id hnp)).mono fun e w' g => ?_
  rw [hfr] at g
  exact RdSt.end_ hC hL hK hO hb g
end
end Go.Proofs.YtlgbcogdogpihaaGreatDoor
