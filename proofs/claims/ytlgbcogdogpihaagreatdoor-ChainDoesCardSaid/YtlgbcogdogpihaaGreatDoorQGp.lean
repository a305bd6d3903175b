/- The reference's disk in memory: what is carried; the walks of rootstockref04's Zero, Stop, Now, Read. The walks of rootstockref04's New, Read, Put. The walks of rootstockref04's Read, Put. The walks of rootstockref06's Read, Put. -/
import Derived.Deep.RegionWith
import Derived.Deep.RegionLaw
import Derived.Test.YtlgbcogdogpihaaGreatDoorQGj
import Derived.Test.YtlgbcogdogpihaaGreatDoorQGn
import Derived.Test.YtlgbcogdogpihaaGreatDoorQGo
namespace Go.Proofs.YtlgbcogdogpihaaGreatDoor
open Go.RowKit Go.Shelf
/-- the reference's disk: what is sure, what is pending, is the power gone, when it goes, counts -/
structure RDk where
  sure : List Bs
  wait : List (Int × Bs)
  down : Bool
  brk : Int
  reads : Int
  writes : Int
def rdkCells (vs vw : Value) (D : RDk) : Array Value := #[vs, vw, .bool D.down, .int .i64 D.brk, .int .i64 D.reads, .int .i64 D.writes]
structure RDAt (w : World) (B q : Nat) (D : RDk) (vs vw : Value) : Prop where
  le : B ≤ q
  self : Blk w q 100 (rdkCells vs vw D)
  sure : LO strE 9 w B vs D.sure
  wait : LO penE 162 w B vw D.wait
def RDkAt (w : World) (B q : Nat) (D : RDk) : Prop := ∃ vs vw, RDAt w B q D vs vw
section
variable {w w' : World} {B q : Nat} {D : RDk} {vs vw : Value}
theorem RDAt.keep (h : RDAt w B q D vs vw) (hb : Below w.heap.size w w') : RDAt w' B q D vs vw := ⟨h.le, h.self.below hb h.self.lt, h.sure.below hb, h.wait.below hb⟩
theorem RDAt.kept (h : RDAt w B q D vs vw) (hk : Kept w w') : RDAt w' B q D vs vw := ⟨h.le, hk _ _ _ h.self (by decide) (by decide), h.sure.kept hk (by decide) (by decide), h.wait.kept hk (by decide) (by decide)⟩
theorem RDkAt.keep (h : RDkAt w B q D) (hb : Below w.heap.size w w') : RDkAt w' B q D := by obtain ⟨a, b, h⟩ := h; exact ⟨a, b, h.keep hb⟩
theorem RDkAt.kept (h : RDkAt w B q D) (hk : Kept w w') : RDkAt w' B q D := by obtain ⟨a, b, h⟩ := h; exact ⟨a, b, h.kept hk⟩
theorem RDAt.turn (h : RDAt w B q D vs vw) (j : Nat) (u : Value) (D' : RDk) (hc : (rdkCells vs vw D).setIfInBounds j u = rdkCells vs vw D') (hs : D'.sure = D.sure) (hw : D'.wait = D.wait) : RDAt (w.setCell ⟨q, j, none⟩ u) B q D' vs vw :=
  ⟨h.le, hc ▸ h.self.set_ j u, hs ▸ h.sure.set_ h.self (by decide), hw ▸ h.wait.set_ h.self (by decide)⟩
end
/-- blocks of other types than the reference's disk's are as they were; what is no cells, too -/
structure RKept (w w' : World) : Prop where
  blk : ∀ (g : Nat) (t : TypeId) (cs : Array Value), Blk w g t cs → t ≠ 100 → t ≠ 162 → Blk w' g t cs
  oth : Oth_ w w'
theorem RKept.refl (w : World) : RKept w w := ⟨fun _ _ _ h _ _ => h, Oth_.refl w⟩
theorem RKept.trans {a b c : World} (h : RKept a b) (g : RKept b c) : RKept a c := ⟨fun k t cs hb h1 h2 => g.blk k t cs (h.blk k t cs hb h1 h2) h1 h2, h.oth.trans g.oth⟩
theorem RKept.below {w w' : World} (h : Below w.heap.size w w') : RKept w w' := ⟨fun _ _ _ hb _ _ => hb.below h hb.lt, Oth_.below h⟩
theorem RKept.set_ {a w : World} (h : RKept a w) {q j : Nat} {cs : Array Value} (hd : Blk w q 100 cs) (u : Value) : RKept a (w.setCell ⟨q, j, none⟩ u) :=
  h.trans ⟨fun _ _ _ hb h1 _ => hb.far (p := ⟨q, j, none⟩) (hb.ne_ hd h1) u, Oth_.grown hd (only_setCell (World.grownBy.refl w (some q)) (.inl rfl) u)⟩
theorem LO.rkept {α : Type} {E : Enc α} {ty : TypeId} {w w' : World} {base : Nat} {v : Value} {l : List α} (h : LO E ty w base v l) (hk : RKept w w') (h1 : ty ≠ 100) (h2 : ty ≠ 162) : LO E ty w' base v l := by
  rcases h with ⟨h3, h4 | ⟨g, cap, cur, hv, hb, hh, r⟩⟩
  · exact ⟨h3, .inl h4⟩
  · exact ⟨h3, .inr ⟨g, cap, cur, hv, hb, hk.blk g ty _ hh h1 h2, r⟩⟩
theorem DkAt.rkept {w w' : World} {B d k : Nat} {D : Dk} (h : DkAt w B d k D) (hk : RKept w w') : DkAt w' B d k D := by
  obtain ⟨s, m, pv, Dm, h⟩ := h
  obtain ⟨es, c, h4, h5⟩ := h.map
  exact ⟨s, m, pv, Dm, h.le, hk.blk _ _ _ h.self (by decide) (by decide), hk.blk _ _ _ h.sure (by decide) (by decide), ⟨es, c, hk.oth m _ h4 rfl, h5⟩, h.now, h.pend.rkept hk (by decide) (by decide)⟩
theorem FAt.rkept {w w' : World} {B f d k : Nat} {D : Dk} (h : FAt w B f d k D) (hk : RKept w w') : FAt w' B f d k D := ⟨h.le, hk.blk _ _ _ h.self (by decide) (by decide), h.disk.rkept hk⟩
set_option maxRecDepth 100000 in
set_option maxHeartbeats 1000000 in
theorem rzero_any (w : World) : Calls Tryz.prog 48 #[] w fun e w' => e = .returned (str zeroL) ∧ w = w' := by
  obtain ⟨Z, hZ⟩ : ∃ Z, Z = zeroL := ⟨_, rfl⟩
  rw [← hZ]
  have HZ := Lib.hid hZ
  clear hZ
  go_enter Tryz.func48, Tryz.ntmps48
  go_wp2
  go_loop [1] (fun v => ∃ j : Nat, j ≤ 8 ∧ v = str (List.replicate (2 ^ j) 0)) (fun v => match v with | .string s => 256 - s.size | _ => 0)
  case atStart => exact ⟨0, by omega, rfl⟩
  case round =>
    obtain ⟨j, hj, rfl⟩ := hrel
    have hl := List.length_replicate (n := 2 ^ j) (a := (0 : UInt8))
    have hr := Lib.hid (List.replicate_append_replicate (n := 2 ^ j) (m := 2 ^ j) (a := (0 : UInt8)))
    have hz := Lib.hid (show j = 8 → List.replicate (2 ^ j) (0 : UInt8) = zeroL from fun e => by rw [e]; rfl)
    have hp := Nat.two_pow_pos j
    unfold str
    by_cases hlt : j < 8
    · have h7 : 2 ^ j ≤ 2 ^ 7 := Nat.pow_le_pow_right (by decide) (by omega)
      have hs2 := Lib.hid (Nat.pow_succ 2 j)
      have hl1 : (List.replicate (2 ^ j) (0 : UInt8)).length ≤ 128 := by omega
      have hl0 : 0 < (List.replicate (2 ^ j) (0 : UInt8)).length := by omega
      clear hz h7 hp hl
      generalize List.replicate (2 ^ j) (0 : UInt8) = L at *
      go_wp2
      refine ⟨⟨j + 1, by omega, ?_⟩, ?_⟩
      · rw [hs2.out, Nat.mul_two, ← hr.out]; exact congrArg Value.string (str_append _ _)
      · simp [ByteArray.size]; omega
    · obtain rfl : j = 8 := by omega
      rw [hz.out rfl, ← HZ.out]
      clear hz hr hp hl
      have hl : 256 ≤ Z.length := by rw [HZ.out]; exact Nat.le_of_eq List.length_replicate.symm
      go_wp2
      go_ret
      exact ⟨rfl, rfl⟩
set_option maxRecDepth 100000 in
theorem rstop_any {w : World} {B q : Nat} {D : RDk} (h : RDkAt w B q D) (n : Int) :
    Calls Tryz.prog 21 #[.pointer (some ⟨q, 0, none⟩), .int .i64 n] w fun e w' => e = .returned (.tuple #[]) ∧ RDkAt w' B q { D with brk := max n (-1) } ∧ RKept w w' ∧ w.grownBy w' (some q) := by
  obtain ⟨vs, vw, h⟩ := h
  have hl := h.self.lt
  have h3 := h.self.cell 3
  have f3 := h.self.frozen 3
  have hend : RDAt (w.setCell ⟨q, 3, none⟩ (.int .i64 (max n (-1)))) B q { D with brk := max n (-1) } vs vw := h.turn 3 _ _ rfl rfl rfl
  have hk := (RKept.refl w).set_ (j := 3) h.self (.int .i64 (max n (-1)))
  have hg := only_setCell (p := ⟨q, 3, none⟩) (World.grownBy.refl w (some q)) (.inl rfl) (.int .i64 (max n (-1)))
  clear h
  go_enter Tryz.func21, Tryz.ntmps21
  go_wp2
  go_end0
  exact ⟨rfl, ⟨vs, vw, hend⟩, hk, hg⟩
def rnowL (s : Bs) (l : List (Int × Bs)) (i : Int) : Bs := l.foldl (fun s x => if x.1 = i then x.2 else s) s
def RDk.now (D : RDk) (i : Int) : Bs := rnowL (D.sure.getD i.toNat []) D.wait i
theorem rnowL_succ (s : Bs) (l : List (Int × Bs)) (i : Int) (j : Nat) (hj : j < l.length) : rnowL s (l.take (j + 1)) i = if l[j].1 = i then l[j].2 else rnowL s (l.take j) i := by
  unfold rnowL
  rw [List.take_succ_eq_append_getElem hj, List.foldl_append]
  rfl
set_option maxRecDepth 100000 in
set_option maxHeartbeats 1000000 in
theorem rnow_any {w : World} {B q : Nat} {D : RDk} (h : RDkAt w B q D) (i : Nat) (hi : i < D.sure.length) (hlw : D.wait.length ≤ 1000000) :
    Calls Tryz.prog 136 #[.pointer (some ⟨q, 0, none⟩), .int .i64 i] w fun e w' => e = .returned (str (D.now i)) ∧ w = w' := by
  obtain ⟨vs, vw, h⟩ := h
  obtain ⟨A1, c1, rfl⟩ := h.sure.form
  obtain ⟨A2, c2, rfl⟩ := h.wait.form
  have h0 : w.cell? ⟨q, 0, none⟩ = some (.slice A1 D.sure.length c1) := h.self.cell 0
  have h1 : w.cell? ⟨q, 1, none⟩ = some (.slice A2 D.wait.length c2) := h.self.cell 1
  have hl := h.self.lt
  obtain ⟨b1, o1, rfl, hb1, g0⟩ := h.sure.ls.at_ hi
  have g0 : w.cell? ⟨b1, o1 + i, none⟩ = some (.string ⟨(D.sure[i]).toArray⟩) := by have := g0 0 (by decide); simpa [strE, str] using this
  have hw := h.wait.ls
  have hs0 : D.now i = rnowL D.sure[i] (D.wait.take D.wait.length) i := by unfold RDk.now; rw [List.take_of_length_le (Nat.le_refl _)]; simp [List.getD, List.getElem?_eq_getElem hi]
  have HS0 := Lib.hid hs0
  clear h hs0
  unfold str
  generalize D.sure[i] = s0 at *
  generalize D.sure.length = n0 at *
  generalize D.now i = r at *
  generalize D.wait = W at *
  clear D
  go_enter Tryz.func136, Tryz.ntmps136
  go_wp2
  go_loop [5, 6] (fun v k => ∃ j : Nat, j ≤ W.length ∧ k = .int .i64 j ∧ v = .string ⟨(rnowL s0 (W.take j) i).toArray⟩) (fun _ k => W.length - (intOf k).toNat)
  case atStart => exact ⟨0, by omega, rfl, rfl⟩
  case round =>
    obtain ⟨j, hj, rfl, rfl⟩ := hrel
    by_cases hlt : j < W.length
    · have hn := Lib.hid (rnowL_succ s0 W i j hlt)
      obtain ⟨b2, o2, rfl, hb2, gg⟩ := hw.at_ hlt
      have g1 : w.cell? ⟨b2, o2 + j * 2, none⟩ = some (.int .i64 (W[j]).1) := by have := gg 0 (by decide); simpa [penE] using this
      have g2 : w.cell? ⟨b2, o2 + j * 2 + 1, none⟩ = some (.string ⟨((W[j]).2).toArray⟩) := by have := gg 1 (by decide); simpa [penE, str] using this
      clear gg
      generalize rnowL s0 (W.take j) i = r1 at *
      generalize W[j] = y at *
      obtain ⟨y1, y2⟩ := y
      simp only at g1 g2 hn
      by_cases he : y1 = (i : Int)
      · have hq : (y1 == (i : Int)) = true := by simpa using he
        have HN := Lib.hid (hn.out.trans (if_pos he))
        clear he hn
        go_wp2
        exact ⟨⟨j + 1, by omega, by go_num, by rw [HN.out]⟩, by simp [intOf]; omega⟩
      · have hq : (y1 == (i : Int)) = false := by simpa using he
        have HN := Lib.hid (hn.out.trans (if_neg he))
        clear he hn
        go_wp2
        exact ⟨⟨j + 1, by omega, by go_num, by rw [HN.out]⟩, by simp [intOf]; omega⟩
    · obtain rfl : j = W.length := by omega
      rw [← HS0.out]
      go_wp2
      go_ret
      exact ⟨rfl, rfl⟩
end Go.Proofs.YtlgbcogdogpihaaGreatDoor
namespace Go.Proofs.YtlgbcogdogpihaaGreatDoor
open Go.RowKit Go.Shelf
theorem eiStrR : EI Tryz.prog 9 (.string ⟨#[]⟩) 1 16 := EI.mk (by kernel_rfl)
theorem eiPenR : EI Tryz.prog 162 (.agg #[.int .i64 0, .string ⟨#[]⟩]) 2 24 := EI.mk (by kernel_rfl)
section
variable {w w2 : World} {B q : Nat} {D : RDk} {vs vw v' : Value}
theorem RDAt.push_self (h : RDAt w B q D vs vw) (hg : w.grownBy w2 vs.ownBlock) : Blk w2 q 100 (rdkCells vs vw D) :=
  h.self.grown hg (fun e => own_blk_ne (h.sure.raw rfl rfl) h.self (by decide) e.symm)
theorem RDAt.push (h : RDAt w B q D vs vw) (hg : w.grownBy w2 vs.ownBlock) (t : Bs) (ho : w2.ownsRow B 9 1 v' (D.sure.length + 1) (strE.cells D.sure ++ [str t])) :
    RDAt (w2.setCell ⟨q, 0, none⟩ v') B q { D with sure := D.sure ++ [t] } v' vw where
  le := h.le
  self := (h.push_self hg).set_ 0 v'
  sure := (LO.snoc (E := strE) (x := t) rfl rfl rfl ho).set_ (h.push_self hg) (by decide)
  wait := (h.wait.keep hg (fun r e => by
      obtain ⟨cs, hcs⟩ := own_obj (h.sure.raw rfl rfl) e
      exact ⟨_, hcs, fun cs' e => by injection e with _ e; exact absurd e (by decide)⟩)).set_ (h.push_self hg) (by decide)
theorem RDAt.wpush_self (h : RDAt w B q D vs vw) (hg : w.grownBy w2 vw.ownBlock) : Blk w2 q 100 (rdkCells vs vw D) :=
  h.self.grown hg (fun e => own_blk_ne (h.wait.raw rfl rfl) h.self (by decide) e.symm)
theorem RDAt.wpush (h : RDAt w B q D vs vw) (hg : w.grownBy w2 vw.ownBlock) (i : Int) (t : Bs) (ho : w2.ownsRow B 162 2 v' (D.wait.length + 1) (penE.cells D.wait ++ [.int .i64 i, str t])) :
    RDAt (w2.setCell ⟨q, 1, none⟩ v') B q { D with wait := D.wait ++ [(i, t)] } vs v' where
  le := h.le
  self := (h.wpush_self hg).set_ 1 v'
  sure := (h.sure.keep hg (fun r e => by
      obtain ⟨cs, hcs⟩ := own_obj (h.wait.raw rfl rfl) e
      exact ⟨_, hcs, fun cs' e => by injection e with _ e; exact absurd e (by decide)⟩)).set_ (h.wpush_self hg) (by decide)
  wait := (LO.snoc (E := penE) (x := (i, t)) rfl rfl rfl ho).set_ (h.wpush_self hg) (by decide)
end
def rfresh (n : Nat) : RDk := ⟨List.replicate n zeroL, [], false, -1, 0, 0⟩
set_option maxRecDepth 100000 in
set_option maxHeartbeats 1000000 in
theorem rnew_any (k : Int) (w : World) :
    Calls Tryz.prog 15 #[.int .i64 k] w fun e w' => ∃ q, e = .returned (.pointer (some ⟨q, 0, none⟩)) ∧ RDkAt w' w.heap.size q (rfresh (diskN k)) ∧ Below w.heap.size w w' := by
  obtain ⟨n, hn⟩ : ∃ n, n = diskN k := ⟨_, rfl⟩
  rw [← hn]
  have hn1 : n ≤ 16384 ∧ (n : Int) = min (max k 0) 16384 := by unfold diskN at hn; omega
  have HN := Lib.hid hn1.2
  have hle := hn1.1
  clear hn hn1
  have hz := fun W => rzero_any W
  unfold str at hz
  generalize hzz : zeroL = Z at hz
  have HZZ := Lib.hid hzz
  clear hzz
  go_enter Tryz.func15, Tryz.ntmps15
  go_wp2
  go_loopw [4] (fun i wr => ∃ j vs, j ≤ n ∧ i = .int .i64 (j : Nat) ∧ RDAt wr w.heap.size w.heap.size ⟨List.replicate j Z, [], false, -1, 0, 0⟩ vs (.slice none 0 0) ∧ Below w.heap.size w wr) (fun i _ => n - (intOf i).toNat)
  case atStart => exact ⟨0, .slice none 0 0, by omega, rfl, ⟨Nat.le_refl _, Blk.new w _ _, LO.nil_ _ _, LO.nil_ _ _⟩, (Below.refl _ w).alloc (Nat.le_refl _) _⟩
  case round =>
    obtain ⟨j, vs, hj, rfl, hR, hb⟩ := hrel
    obtain ⟨A, c, rfl⟩ := hR.sure.form
    have hn2 := HN.out
    by_cases hlt : j < n
    · have hq : decide ((j : Int) < min (max k 0) 16384) = true := by simp; omega
      have hlr : (List.replicate j Z).length = j := by simp
      have hsl := hR.self.lt
      have hc0 := hR.self.cell 0
      simp only [rdkCells] at hc0
      have hRS := Lib.hid (List.replicate_succ' (n := j) (a := Z))
      rw [hlr] at hc0
      generalize List.replicate j Z = L at *
      have hown3 : wr.drew.ownsRow w.heap.size 9 1 (.slice A L.length c) L.length (strE.cells L) := hR.sure.raw rfl rfl
      rw [hlr] at hown3
      have HLR := Lib.hid hlr
      clear hlr hn2
      have hb3 : w.heap.size ≤ wr.drew.heap.size := hb.size
      have hfacts : ∀ v' w2, w2.ownsRow w.heap.size 9 1 v' (j + 1) (strE.cells L ++ [str Z]) → wr.drew.grownBy w2 (Value.slice A j c).ownBlock → w2.cell? ⟨w.heap.size, 0, none⟩ = some (.slice A j c) ∧ w2.frozen? ⟨w.heap.size, 0, none⟩ = false ∧ w.heap.size < w2.heap.size ∧ RDAt (w2.setCell ⟨w.heap.size, 0, none⟩ v') w.heap.size w.heap.size ⟨L ++ [Z], [], false, -1, 0, 0⟩ v' (.slice none 0 0) := by
        intro v' w2 ho hg
        have hg' : wr.grownBy w2 (Value.slice A L.length c).ownBlock := by rw [HLR.out]; exact ⟨hg.os, hg.tape, hg.output, hg.size, hg.block⟩
        have hs := hR.push_self hg'
        refine ⟨?_, hs.frozen 0, hs.lt, hR.push hg' Z (by simp only; rw [HLR.out]; exact ho)⟩
        have := hs.cell 0
        simp only [rdkCells] at this
        rw [HLR.out] at this
        exact this
      have HF := Lib.hid hfacts
      clear hfacts
      have hbd : Below w.heap.size w wr.drew := hb.drew
      go_wp2_with fail
      go_region_law (first | (refine step_app1 rfl (.tmp 18) (.tmp 20) 56 rfl eiStrR Tryz.underlying56 rfl (by decide) rfl hown3 rfl (by simp) rfl (by simp [Value.oneCell']) (by unfold maxLen; omega) (by omega) hb3 ?_; intro v' w6 hown' hgrow hbel; obtain ⟨k1, k2, k3, hR6⟩ := HF.out v' w6 hown' hgrow; obtain ⟨A6, c6, rfl⟩ := own_form hown') | (go_simp; go_at_call 48; refine (hz _).mono ?_; rintro e w7 ⟨rfl, rfl⟩))
      all_goals
        go_wp2
        go_roundw
        case rel => exact ⟨j + 1, _, by omega, by go_num, by rw [hRS.out]; exact hR6, (hbd.trans hbel).setCell (p := ⟨w.heap.size, 0, none⟩) (Nat.le_refl _) _⟩
        case measure => simp [intOf]; omega
    · obtain rfl : j = n := by omega
      have hq : decide ((j : Int) < min (max k 0) 16384) = false := by simp; omega
      clear hn2
      go_wp2
      go_ret
      exact ⟨_, rfl, ⟨_, _, by unfold rfresh; rw [HZZ.out]; exact hR⟩, hb⟩
end Go.Proofs.YtlgbcogdogpihaaGreatDoor
namespace Go.Proofs.YtlgbcogdogpihaaGreatDoor
open Go.RowKit Go.Shelf
structure RFine (D : RDk) : Prop where
  n : D.sure.length ≤ 16384
  writes : 0 ≤ D.writes ∧ D.writes < 1000000
  reads : 0 ≤ D.reads ∧ D.reads < 1000000
  brk : -1 ≤ D.brk ∧ D.brk ≤ 9223372036854775807
  wait : D.wait.length ≤ 1000000
set_option maxRecDepth 100000 in
theorem rread_down {w : World} {B q : Nat} {D : RDk} (h : RDkAt w B q D) (i : Int) (hd : D.down = true) :
    Calls Tryz.prog 92 #[.pointer (some ⟨q, 0, none⟩), .int .i64 i] w fun e w' => e = .returned (.tuple #[.string ⟨#[]⟩, .int .i64 4]) ∧ w = w' := by
  obtain ⟨vs, vw, h⟩ := h
  have h2 : w.cell? ⟨q, 2, none⟩ = some (.bool true) := by rw [← hd]; exact h.self.cell 2
  have hl := h.self.lt
  clear h
  go_enter Tryz.func92, Tryz.ntmps92
  go_wp2
  go_ret2
  exact ⟨rfl, rfl⟩
set_option maxRecDepth 100000 in
set_option maxHeartbeats 1000000 in
theorem rread_any {w : World} {B q : Nat} {D : RDk} (h : RDkAt w B q D) (i : Nat) (hi : i < D.sure.length) (hR : RFine D) (hd : D.down = false) :
    Calls Tryz.prog 92 #[.pointer (some ⟨q, 0, none⟩), .int .i64 i] w fun e w' => e = .returned (.tuple #[str (D.now i), .int .i64 0]) ∧ RDkAt w' B q { D with reads := D.reads + 1 } ∧ RKept w w' ∧ Below B w w' := by
  obtain ⟨vs, vw, h⟩ := h
  obtain ⟨A1, c1, rfl⟩ := h.sure.form
  have h0 : w.cell? ⟨q, 0, none⟩ = some (.slice A1 D.sure.length c1) := h.self.cell 0
  have h2 : w.cell? ⟨q, 2, none⟩ = some (.bool false) := by rw [← hd]; exact h.self.cell 2
  have h4 : w.cell? ⟨q, 4, none⟩ = some (.int .i64 D.reads) := h.self.cell 4
  have f4 := h.self.frozen 4
  have hl := h.self.lt
  have hr := hR.reads
  have hq1 : decide ((i : Int) < 0) = false := decide_eq_false (by omega)
  have hq2 : decide ((D.sure.length : Int) ≤ (i : Int)) = false := decide_eq_false (by omega)
  have hn := hR.n
  have hend : RDAt (w.setCell ⟨q, 4, none⟩ (.int .i64 (D.reads + 1))) B q { D with reads := D.reads + 1 } _ vw := h.turn 4 _ _ rfl rfl rfl
  have hk := (RKept.refl w).set_ (j := 4) h.self (.int .i64 (D.reads + 1))
  have hb := (Below.refl B w).setCell (p := ⟨q, 4, none⟩) h.le (.int .i64 (D.reads + 1))
  have hnow := rnow_any ⟨_, _, hend⟩ i hi (by exact hR.wait)
  have he : RDk.now { D with reads := D.reads + 1 } i = D.now i := rfl
  rw [he] at hnow
  unfold str at *
  have hE : RDkAt (w.setCell ⟨q, 4, none⟩ (.int .i64 (D.reads + 1))) B q { D with reads := D.reads + 1 } := ⟨_, _, hend⟩
  have HE := Lib.hid hE
  have HN := Lib.hid hnow
  clear h hend hnow hE hd he hR
  generalize D.now i = r at *
  go_enter Tryz.func92, Tryz.ntmps92
  go_wp2_with fail
  refine Calls.mono HN.out ?_
  rintro e w1 ⟨rfl, rfl⟩
  go_wp2
  go_ret2
  exact ⟨rfl, HE.out, hk, hb⟩
/-- what a write makes of the reference's disk -/
def RDk.put (D : RDk) (i : Int) (t : Bs) : RDk := { D with wait := D.wait ++ [(i, t)], writes := D.writes + 1 }
def RDk.wrote (D : RDk) (i : Int) (t : Bs) : RDk := if D.brk = 0 then { D.put i t with down := true, brk := -1 } else if 0 < D.brk then { D.put i t with brk := D.brk - 1 } else D.put i t
def RDk.wroteE (D : RDk) : Int := if D.brk = 0 then 4 else 0
set_option maxRecDepth 100000 in
theorem rput_down {w : World} {B q : Nat} {D : RDk} (h : RDkAt w B q D) (i : Int) (t : Value) (hd : D.down = true) :
    Calls Tryz.prog 57 #[.pointer (some ⟨q, 0, none⟩), .int .i64 i, t] w fun e w' => e = .returned (.int .i64 4) ∧ w = w' := by
  obtain ⟨vs, vw, h⟩ := h
  have h2 : w.cell? ⟨q, 2, none⟩ = some (.bool true) := by rw [← hd]; exact h.self.cell 2
  have hl := h.self.lt
  clear h
  go_enter Tryz.func57, Tryz.ntmps57
  go_wp2
  go_ret
  exact ⟨rfl, rfl⟩
set_option maxRecDepth 100000 in
set_option maxHeartbeats 2000000 in
theorem rdput_ok {w : World} {B q : Nat} {D : RDk} (h : RDkAt w B q D) (i : Nat) (t : Bs) (hi : i < D.sure.length) (ht : t.length = 256) (hR : RFine D) (hp : D.wait.length < 1000000) (hd : D.down = false) (hB : B ≤ w.heap.size) :
    Calls Tryz.prog 57 #[.pointer (some ⟨q, 0, none⟩), .int .i64 i, str t] w fun e w' => e = .returned (.int .i64 D.wroteE) ∧ RDkAt w' B q (D.wrote i t) ∧ RKept w w' ∧ Below B w w' := by
  obtain ⟨vs, vw, h⟩ := h
  have HH := Lib.hid h
  obtain ⟨A1, c1, rfl⟩ := h.sure.form
  obtain ⟨A2, c2, rfl⟩ := h.wait.form
  have h0 : w.cell? ⟨q, 0, none⟩ = some (.slice A1 D.sure.length c1) := h.self.cell 0
  have h1 : w.cell? ⟨q, 1, none⟩ = some (.slice A2 D.wait.length c2) := h.self.cell 1
  have h2 : w.cell? ⟨q, 2, none⟩ = some (.bool false) := by rw [← hd]; exact h.self.cell 2
  have hl := h.self.lt
  have hw6 := hR.writes
  have hbk := hR.brk
  have hq1 : decide ((i : Int) < 0) = false := decide_eq_false (by omega)
  have hq2 : decide ((D.sure.length : Int) ≤ (i : Int)) = false := decide_eq_false (by omega)
  have hq3 : ((t.length : Int) != 256) = false := by rw [ht]; rfl
  have hn := hR.n
  have hown := h.wait.raw rfl (s := 2) rfl
  unfold str
  have hn1 : D.wait.length + 1 ≤ maxLen := by unfold maxLen; omega
  have hn2 : (D.wait.length + 1) * 24 ≤ 140737488355328 := by omega
  have hle := h.le
  have hfacts : ∀ v' w2, w2.ownsRow B 162 2 v' (D.wait.length + 1) (penE.cells D.wait ++ [.int .i64 i, .string ⟨t.toArray⟩]) → w.grownBy w2 (Value.slice A2 D.wait.length c2).ownBlock → Below B w w2 →
      w2.frozen? ⟨q, 1, none⟩ = false ∧ w2.cell? ⟨q, 1, none⟩ = some (.slice A2 D.wait.length c2) ∧ w2.cell? ⟨q, 5, none⟩ = some (.int .i64 D.writes) ∧ w2.frozen? ⟨q, 5, none⟩ = false ∧ w2.cell? ⟨q, 3, none⟩ = some (.int .i64 D.brk) ∧ w2.frozen? ⟨q, 3, none⟩ = false ∧ w2.cell? ⟨q, 2, none⟩ = some (.bool false) ∧ w2.frozen? ⟨q, 2, none⟩ = false ∧ q < w2.heap.size ∧
      Hid (RDAt ((w2.setCell ⟨q, 1, none⟩ v').setCell ⟨q, 5, none⟩ (.int .i64 (D.writes + 1))) B q (D.put i t) (.slice A1 D.sure.length c1) v' ∧ RKept w ((w2.setCell ⟨q, 1, none⟩ v').setCell ⟨q, 5, none⟩ (.int .i64 (D.writes + 1))) ∧ Below B w ((w2.setCell ⟨q, 1, none⟩ v').setCell ⟨q, 5, none⟩ (.int .i64 (D.writes + 1)))) := by
    intro v' w2 ho hg hb
    have hs := h.wpush_self hg
    have hp1 := h.wpush hg i t ho
    have hk0 : RKept w w2 := ⟨fun g ty cs hb e1 e2 => hb.grown hg (fun e => own_blk_ne hown hb (Ne.symm e2) e.symm), fun k o hk h1 => (hg.block k (Array.getElem?_eq_some_iff.1 hk).1 (fun e => by
      obtain ⟨cs, hcs⟩ := own_obj hown e.symm
      rw [hk] at hcs
      cases hcs
      cases h1)).trans hk⟩
    refine ⟨hs.frozen 1, hs.cell 1, hs.cell 5, hs.frozen 5, hs.cell 3, hs.frozen 3, by rw [← hd]; exact hs.cell 2, hs.frozen 2, hs.lt, Lib.hid ⟨hp1.turn 5 _ _ rfl rfl rfl, (hk0.set_ hs v').set_ hp1.self _, (hb.setCell (by exact hle) _).setCell (by exact hle) _⟩⟩
  have HF := Lib.hid hfacts
  clear hfacts h hR hd
  by_cases hb0 : D.brk = 0
  · have hwr : D.wrote i t = { D.put i t with down := true, brk := -1 } := by unfold RDk.wrote; rw [if_pos hb0]
    have hwe : D.wroteE = 4 := by unfold RDk.wroteE; rw [if_pos hb0]
    have HW := Lib.hid hwr
    have HE := Lib.hid hwe
    have hq : (D.brk == 0) = true := by simpa using hb0
    clear hwr hwe hb0
    go_enter Tryz.func57, Tryz.ntmps57
    go_wp2_with (at_builtin; refine wpList_app1 rfl (.tmp 29) (.tmp 33) 98 rfl eiPenR Tryz.underlying98 rfl (by decide) rfl hown rfl (by simp) rfl (by simp [Value.oneCell']) hn1 hn2 hB ?_; intro v' w2 hown' hgrow hbel _ _
                 obtain ⟨k1, k2, k3, k4, k5, k6, k7, k8, k9, k10⟩ := HF.out v' w2 hown' hgrow hbel
                 obtain ⟨A', c', rfl⟩ := own_form hown')
    go_ret
    exact ⟨by rw [HE.out]; rfl, ⟨_, _, by rw [HW.out]; exact (k10.out.1.turn 2 (.bool true) { D.put i t with down := true } rfl rfl rfl).turn 3 (.int .i64 (-1)) _ rfl rfl rfl⟩, (k10.out.2.1.set_ k10.out.1.self _).set_ (k10.out.1.turn 2 (.bool true) { D.put i t with down := true } rfl rfl rfl).self _, (k10.out.2.2.setCell (by exact hle) _).setCell (by exact hle) _⟩
  have hwe : D.wroteE = 0 := by unfold RDk.wroteE; rw [if_neg hb0]
  have HE := Lib.hid hwe
  have hq : (D.brk == 0) = false := by simpa using hb0
  clear hwe
  by_cases hp0 : 0 < D.brk
  · have hwr : D.wrote i t = { D.put i t with brk := D.brk - 1 } := by unfold RDk.wrote; rw [if_neg hb0, if_pos hp0]
    have HW := Lib.hid hwr
    have hq2 : decide (0 < D.brk) = true := by simpa using hp0
    clear hwr hb0
    go_enter Tryz.func57, Tryz.ntmps57
    go_wp2_with (at_builtin; refine wpList_app1 rfl (.tmp 29) (.tmp 33) 98 rfl eiPenR Tryz.underlying98 rfl (by decide) rfl hown rfl (by simp) rfl (by simp [Value.oneCell']) hn1 hn2 hB ?_; intro v' w2 hown' hgrow hbel _ _
                 obtain ⟨k1, k2, k3, k4, k5, k6, k7, k8, k9, k10⟩ := HF.out v' w2 hown' hgrow hbel
                 obtain ⟨A', c', rfl⟩ := own_form hown')
    go_ret
    exact ⟨by rw [HE.out]; rfl, ⟨_, _, by rw [HW.out]; exact k10.out.1.turn 3 (.int .i64 (D.brk - 1)) _ rfl rfl rfl⟩, k10.out.2.1.set_ k10.out.1.self _, k10.out.2.2.setCell (by exact hle) _⟩
  · have hwr : D.wrote i t = D.put i t := by unfold RDk.wrote; rw [if_neg hb0, if_neg hp0]
    have HW := Lib.hid hwr
    have hq2 : decide (0 < D.brk) = false := by simpa using hp0
    clear hwr hb0 hp0
    go_enter Tryz.func57, Tryz.ntmps57
    go_wp2_with (at_builtin; refine wpList_app1 rfl (.tmp 29) (.tmp 33) 98 rfl eiPenR Tryz.underlying98 rfl (by decide) rfl hown rfl (by simp) rfl (by simp [Value.oneCell']) hn1 hn2 hB ?_; intro v' w2 hown' hgrow hbel _ _
                 obtain ⟨k1, k2, k3, k4, k5, k6, k7, k8, k9, k10⟩ := HF.out v' w2 hown' hgrow hbel
                 obtain ⟨A', c', rfl⟩ := own_form hown')
    go_ret
    exact ⟨by rw [HE.out]; rfl, ⟨_, _, by rw [HW.out]; exact k10.out.1⟩, k10.out.2.1, k10.out.2.2⟩
end Go.Proofs.YtlgbcogdogpihaaGreatDoor
namespace Go.Proofs.YtlgbcogdogpihaaGreatDoor
open Go.RowKit Go.Shelf
structure RFAt (w : World) (B g q : Nat) (D : RDk) : Prop where
  self : Blk w g 43 #[.pointer (some ⟨q, 0, none⟩)]
  disk : RDkAt w B q D
theorem RFAt.keep {w w' : World} {B g q : Nat} {D : RDk} (h : RFAt w B g q D) (hb : Below w.heap.size w w') : RFAt w' B g q D := ⟨h.self.below hb h.self.lt, h.disk.keep hb⟩
theorem RFAt.kept {w w' : World} {B g q : Nat} {D : RDk} (h : RFAt w B g q D) (hk : Kept w w') : RFAt w' B g q D := ⟨hk _ _ _ h.self (by decide) (by decide), h.disk.kept hk⟩
/-- what a sector's bytes are, as a page of the reference's -/
def RPageIs (D : RDk) (id : Int) (o : Option (Nat × Bs)) : Prop := (D.now id = zeroL ∧ o = none) ∨ ∃ k b, k < 256 ∧ b.length ≤ 240 ∧ D.now id = Pg.rpage id.toNat k b ∧ o = some (k, b)
def RDk.readD (D : RDk) (id : Int) : RDk := if noPage D.sure.length id then D else if D.down then D else { D with reads := D.reads + 1 }
def RDk.fputE (D : RDk) (id : Int) (b : Bs) : Int := if noPage D.sure.length id then 40 else if 240 < b.length then 50 else if D.down then 4 else D.wroteE
def RDk.fput (D : RDk) (id : Int) (kind : Nat) (b : Bs) : RDk := if noPage D.sure.length id then D else if 240 < b.length then D else if D.down then D else D.wrote id (Pg.rpage id.toNat kind b)
theorem RDkAt.len {w : World} {B q : Nat} {D : RDk} (h : RDkAt w B q D) : ∃ A c, w.cell? ⟨q, 0, none⟩ = some (.slice A D.sure.length c) ∧ q < w.heap.size := by
  obtain ⟨vs, vw, h⟩ := h
  obtain ⟨A, c, rfl⟩ := h.sure.form
  exact ⟨A, c, h.self.cell 0, h.self.lt⟩
/-- how the reference's file reads -/
def RFREnd (B g q : Nat) (x : Bs × Int) (D' : RDk) (w : World) (e : Ending) (w' : World) : Prop := e = .returned (.tuple #[str x.1, .int .i64 x.2]) ∧ RFAt w' B g q D' ∧ Below B w w' ∧ RKept w w'
set_option maxRecDepth 100000 in
set_option maxHeartbeats 1000000 in
theorem rfread_any {w : World} {B g q : Nat} {D : RDk} (h : RFAt w B g q D) (hF : RFine D) (hB : B ≤ w.heap.size) (id : Int) (kind : Nat) (o : Option (Nat × Bs)) (ho : noPage D.sure.length id = false → D.down = false → RPageIs D id o) :
    Calls Tryz.prog 51 #[.pointer (some ⟨g, 0, none⟩), .int .i64 id, .int .u8 kind] w (RFREnd B g q (frB D.sure.length D.down id kind o) (D.readD id) w) := by
  obtain ⟨A, c, hc, hql⟩ := h.disk.len
  have hf := h.self.cell 0
  have hgl := h.self.lt
  have hn := hF.n
  cases hno : noPage D.sure.length id with
  | true =>
    have e1 : frB D.sure.length D.down id kind o = ([], 40) := by unfold frB; rw [hno]; rfl
    have e2 : D.readD id = D := by unfold RDk.readD; rw [hno]; rfl
    rw [e1, e2]
    have hbad : id < 2 ∨ (D.sure.length : Int) ≤ id := by simpa [noPage] using hno
    clear e1 e2 ho hno
    by_cases h2 : id < 2
    · have hq : decide (id < 2) = true := decide_eq_true h2
      go_enter Tryz.func51, Tryz.ntmps51
      go_wp2
      go_ret2
      exact ⟨rfl, h, Below.refl _ _, RKept.refl _⟩
    · have hq : decide (id < 2) = false := decide_eq_false h2
      have hq2 : decide ((D.sure.length : Int) ≤ id) = true := decide_eq_true (by omega)
      go_enter Tryz.func51, Tryz.ntmps51
      go_wp2
      go_ret2
      exact ⟨rfl, h, Below.refl _ _, RKept.refl _⟩
  | false =>
    have hb2 : ¬ id < 2 ∧ ¬ (D.sure.length : Int) ≤ id := by simpa [noPage] using hno
    obtain ⟨i, rfl⟩ := Int.eq_ofNat_of_zero_le (show 0 ≤ id by omega)
    have hq : 2 ≤ i := by omega
    have hq2 : i < D.sure.length := by omega
    cases hdn : D.down with
    | true =>
      have e1 : frB D.sure.length true i kind o = ([], 4) := by unfold frB; rw [hno]; rfl
      have e2 : D.readD i = D := by unfold RDk.readD; rw [hno, hdn]; rfl
      rw [e1, e2]
      have hr := rread_down h.disk i hdn
      clear e1 e2 ho hno hb2
      go_enter Tryz.func51, Tryz.ntmps51
      go_wp2_with fail
      refine Calls.mono hr ?_
      rintro e w1 ⟨rfl, rfl⟩
      go_wp2
      go_ret2
      exact ⟨rfl, h, Below.refl _ _, RKept.refl _⟩
    | false =>
      have e2 : D.readD i = { D with reads := D.reads + 1 } := by unfold RDk.readD; rw [hno, hdn]; rfl
      rw [e2]
      have hr := rread_any h.disk i (by omega) hF hdn
      have hfin : ∀ w1, RDkAt w1 B q { D with reads := D.reads + 1 } → RKept w w1 → RFAt w1 B g q { D with reads := D.reads + 1 } := fun w1 h1 h2 => ⟨h2.blk _ _ _ h.self (by decide) (by decide), h1⟩
      have HFIN := Lib.hid hfin
      clear hfin
      rcases ho hno hdn with ⟨hz, rfl⟩ | ⟨k, b, hk, hb, hp, rfl⟩
      · have e1 : frB D.sure.length false i kind none = ([], 3) := by unfold frB; rw [hno]; rfl
        rw [e1]
        have hop := fun W => ropen_zero i (by omega) (by omega) W
        rw [hz] at hr
        unfold ROpenEnd at hop
        unfold str at hr
        have HR := Lib.hid hr
        have HOP := Lib.hid hop
        clear hr hop e1 e2 hz ho hno hb2
        generalize zeroL = Z at *
        go_enter Tryz.func51, Tryz.ntmps51
        go_wp2_with fail
        refine Calls.mono HR.out ?_
        rintro e w1 ⟨rfl, hD1, hk1, hb1⟩
        go_wp2_with fail
        refine Calls.mono (HOP.out _) ?_
        rintro e w2 ⟨rfl, b2⟩
        have hend := (HFIN.out w1 hD1 hk1).keep b2
        have hbw := hb1.trans (b2.mono (Nat.le_trans hB hb1.size))
        have hkw := hk1.trans (RKept.below b2)
        go_wp2
        go_ret2
        exact ⟨rfl, hend, hbw, hkw⟩
      · have hop := fun W => ropen_page i k b (by omega) hk hb W
        rw [hp] at hr
        unfold ROpenEnd at hop
        unfold str at hr
        rw [Int.toNat_natCast] at hr
        have HR := Lib.hid hr
        have HOP := Lib.hid hop
        clear hr hop e2 hp ho hb2
        generalize Pg.rpage i k b = Z at *
        by_cases hkk : k = kind
        · have e1 : frB D.sure.length false i kind (some (k, b)) = (b, 0) := by unfold frB; rw [hno]; simp [hkk]
          rw [e1]
          have hq4 : ((k : Int) != (kind : Int)) = false := by rw [hkk]; simp
          clear e1 hno
          go_enter Tryz.func51, Tryz.ntmps51
          go_wp2_with fail
          refine Calls.mono HR.out ?_
          rintro e w1 ⟨rfl, hD1, hk1, hb1⟩
          go_wp2_with fail
          refine Calls.mono (HOP.out _) ?_
          rintro e w2 ⟨rfl, b2⟩
          have hend := (HFIN.out w1 hD1 hk1).keep b2
          have hbw := hb1.trans (b2.mono (Nat.le_trans hB hb1.size))
          have hkw := hk1.trans (RKept.below b2)
          clear hkk
          go_wp2
          go_ret2
          exact ⟨rfl, hend, hbw, hkw⟩
        · have e1 : frB D.sure.length false i kind (some (k, b)) = ([], 3) := by unfold frB; rw [hno]; simp [hkk]
          rw [e1]
          have hq4 : ((k : Int) != (kind : Int)) = true := by simp; omega
          clear e1 hno
          go_enter Tryz.func51, Tryz.ntmps51
          go_wp2_with fail
          refine Calls.mono HR.out ?_
          rintro e w1 ⟨rfl, hD1, hk1, hb1⟩
          go_wp2_with fail
          refine Calls.mono (HOP.out _) ?_
          rintro e w2 ⟨rfl, b2⟩
          have hend := (HFIN.out w1 hD1 hk1).keep b2
          have hbw := hb1.trans (b2.mono (Nat.le_trans hB hb1.size))
          have hkw := hk1.trans (RKept.below b2)
          clear hkk
          go_wp2
          go_ret2
          exact ⟨rfl, hend, hbw, hkw⟩
/-- how the reference's file puts a page -/
def RFWEnd (B g q : Nat) (x : Int) (D' : RDk) (w : World) (e : Ending) (w' : World) : Prop := e = .returned (.int .i64 x) ∧ RFAt w' B g q D' ∧ Below B w w' ∧ RKept w w'
set_option maxRecDepth 100000 in
set_option maxHeartbeats 1000000 in
theorem rfput_any {w : World} {B g q : Nat} {D : RDk} (h : RFAt w B g q D) (hF : RFine D) (hw : D.wait.length < 1000000) (hB : B ≤ w.heap.size) (id : Int) (kind : Nat) (hkd : kind < 256) (b : Bs) :
    Calls Tryz.prog 19 #[.pointer (some ⟨g, 0, none⟩), .int .i64 id, .int .u8 kind, str b] w (RFWEnd B g q (D.fputE id b) (D.fput id kind b) w) := by
  obtain ⟨A, c, hc, hql⟩ := h.disk.len
  have hf := h.self.cell 0
  have hgl := h.self.lt
  have hn := hF.n
  unfold str
  cases hno : noPage D.sure.length id with
  | true =>
    have e1 : D.fputE id b = 40 := by unfold RDk.fputE; rw [hno]; rfl
    have e2 : D.fput id kind b = D := by unfold RDk.fput; rw [hno]; rfl
    rw [e1, e2]
    have hbad : id < 2 ∨ (D.sure.length : Int) ≤ id := by simpa [noPage] using hno
    clear e1 e2 hno
    by_cases h2 : id < 2
    · have hq : decide (id < 2) = true := decide_eq_true h2
      go_enter Tryz.func19, Tryz.ntmps19
      go_wp2
      go_ret
      exact ⟨rfl, h, Below.refl _ _, RKept.refl _⟩
    · have hq : decide (id < 2) = false := decide_eq_false h2
      have hq2 : decide ((D.sure.length : Int) ≤ id) = true := decide_eq_true (by omega)
      go_enter Tryz.func19, Tryz.ntmps19
      go_wp2
      go_ret
      exact ⟨rfl, h, Below.refl _ _, RKept.refl _⟩
  | false =>
    have hb2 : ¬ id < 2 ∧ ¬ (D.sure.length : Int) ≤ id := by simpa [noPage] using hno
    obtain ⟨i, rfl⟩ := Int.eq_ofNat_of_zero_le (show 0 ≤ id by omega)
    have hq : 2 ≤ i := by omega
    have hq2 : i < D.sure.length := by omega
    by_cases hl : 240 < b.length
    · have e1 : D.fputE i b = 50 := by unfold RDk.fputE; rw [hno, if_pos hl]; rfl
      have e2 : D.fput i kind b = D := by unfold RDk.fput; rw [hno, if_pos hl]; rfl
      rw [e1, e2]
      have hq3 : decide (240 < (b.length : Int)) = true := decide_eq_true (by omega)
      clear e1 e2 hno hb2
      go_enter Tryz.func19, Tryz.ntmps19
      go_wp2
      go_ret
      exact ⟨rfl, h, Below.refl _ _, RKept.refl _⟩
    · have hq3 : decide (240 < (b.length : Int)) = false := decide_eq_false (by omega)
      have hs := fun W => rseal_any i kind b (by omega) hkd (by omega) W
      unfold RSealEnd at hs
      have hTl := Pg.rpage_length i kind b (by omega)
      cases hdn : D.down with
      | true =>
        have e1 : D.fputE i b = 4 := by unfold RDk.fputE; rw [hno, if_neg hl, hdn]; rfl
        have e2 : D.fput i kind b = D := by unfold RDk.fput; rw [hno, if_neg hl, hdn]; rfl
        rw [e1, e2]
        generalize Pg.rpage i kind b = Z at *
        have HS := Lib.hid hs
        clear e1 e2 hno hb2 hs hTl
        go_enter Tryz.func19, Tryz.ntmps19
        go_wp2_with fail
        refine Calls.mono (HS.out _) ?_
        rintro e w1 ⟨rfl, b1⟩
        have hp := rput_down (h.disk.keep b1) i (.string ⟨Z.toArray⟩) hdn
        have hf1 := (h.keep b1).self.cell 0
        have hgl1 := (h.keep b1).self.lt
        go_wp2_with fail
        refine Calls.mono hp ?_
        rintro e w2 ⟨rfl, rfl⟩
        go_wp2
        go_ret
        exact ⟨rfl, h.keep b1, b1.mono hB, RKept.below b1⟩
      | false =>
        have e1 : D.fputE i b = D.wroteE := by unfold RDk.fputE; rw [hno, if_neg hl, hdn]; rfl
        have e2 : D.fput i kind b = D.wrote i (Pg.rpage i kind b) := by unfold RDk.fput; rw [hno, if_neg hl, hdn, Int.toNat_natCast]; rfl
        rw [e1, e2]
        have hp := fun W (h1 : RDkAt W B q D) (h2 : B ≤ W.heap.size) => rdput_ok h1 i (Pg.rpage i kind b) (by omega) hTl hF hw hdn h2
        unfold str at hp
        generalize D.wrote i (Pg.rpage i kind b) = D' at *
        generalize D.wroteE = x at *
        generalize Pg.rpage i kind b = Z at *
        have HS := Lib.hid hs
        have HP := Lib.hid hp
        clear e1 e2 hno hb2 hs hTl hp
        go_enter Tryz.func19, Tryz.ntmps19
        go_wp2_with fail
        refine Calls.mono (HS.out _) ?_
        rintro e w1 ⟨rfl, b1⟩
        have hf1 := (h.keep b1).self.cell 0
        have hgl1 := (h.keep b1).self.lt
        go_wp2_with fail
        refine Calls.mono (HP.out _ (h.disk.keep b1) (Nat.le_trans hB b1.size)) ?_
        rintro e w2 ⟨rfl, hD2, hk2, hb2⟩
        go_wp2
        go_ret
        exact ⟨rfl, ⟨hk2.blk _ _ _ (h.keep b1).self (by decide) (by decide), hD2⟩, (b1.mono hB).trans hb2, (RKept.below b1).trans hk2⟩
end Go.Proofs.YtlgbcogdogpihaaGreatDoor
