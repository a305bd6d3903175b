/- The walks of pagefile's page, Write, Read. The walk of pagefile.Read. The walk of chain.follow; what a file's words hang on. -/
import Derived.RangeFuncOwn
import Derived.Test.YtlgbcogdogpihaaGreatDoorQGg
import Derived.Test.YtlgbcogdogpihaaGreatDoorQGi
import Derived.Test.YtlgbcogdogpihaaGreatDoorQGd
namespace Go.Proofs.YtlgbcogdogpihaaGreatDoor
open Go.RowKit Go.Shelf
structure FAt (w : World) (B f d k : Nat) (D : Dk) : Prop where
  le : B ≤ f
  self : Blk w f 73 #[.pointer (some ⟨d, 0, none⟩)]
  disk : DkAt w B d k D
theorem DkAt.of_ {w : World} {B d k : Nat} {D : Dk} (h : DkAt w B d k D) : DiskOf w d D.sure.length := by
  obtain ⟨s, m, pv, Dm, h⟩ := h
  exact ⟨_, _, _, h.self, rfl⟩
theorem FAt.keep {w w' : World} {B f d k : Nat} {D : Dk} (h : FAt w B f d k D) (hb : Below w.heap.size w w') : FAt w' B f d k D := ⟨h.le, h.self.below hb h.self.lt, h.disk.keep hb⟩
def noPage (n : Nat) (id : Int) : Bool := decide (id < 2) || decide ((n : Int) ≤ id)
set_option maxRecDepth 100000 in
theorem ppage_any {w : World} {B f d k : Nat} {D : Dk} (h : FAt w B f d k D) (id : Int) :
    Calls Tryz.prog 53 #[.pointer (some ⟨f, 0, none⟩), .int .i64 id] w fun e w' => e = .returned (.int .i64 (if noPage D.sure.length id then 40 else 0)) ∧ w' = w := by
  have hs := sectors_any d D.sure.length w h.disk.of_
  have hf := h.self.cell 0
  generalize D.sure.length = n at *
  unfold noPage
  clear h
  by_cases h2 : id < 2
  · have hq : decide (id < 2) = true := by simpa using h2
    rw [hq]
    go_enter Tryz.func53, Tryz.ntmps53
    go_wp2
    go_ret
    exact ⟨rfl, rfl⟩
  · have hq : decide (id < 2) = false := by simpa using h2
    rw [hq]
    by_cases hn : (n : Int) ≤ id
    · have hq2 : decide ((n : Int) ≤ id) = true := by simpa using hn
      rw [hq2]
      go_enter Tryz.func53, Tryz.ntmps53
      go_wp2_with (go_at_call 95; refine hs.mono ?_; rintro e w1 ⟨rfl, rfl⟩)
      go_ret
      exact ⟨rfl, rfl⟩
    · have hq2 : decide ((n : Int) ≤ id) = false := by simpa using hn
      rw [hq2]
      go_enter Tryz.func53, Tryz.ntmps53
      go_wp2_with (go_at_call 95; refine hs.mono ?_; rintro e w1 ⟨rfl, rfl⟩)
      go_ret
      exact ⟨rfl, rfl⟩
/-- what a page's write tells, and leaves -/
def Dk.fputE (D : Dk) (id : Int) (b : Bs) : Int := if noPage D.sure.length id then 40 else if 240 < b.length then 50 else if D.down then 4 else D.wroteE
def Dk.fput (D : Dk) (id : Int) (kind : Nat) (b : Bs) : Dk := if noPage D.sure.length id then D else if 240 < b.length then D else if D.down then D else D.wrote id (Pg.page id.toNat kind b)
theorem DkAt.mono {w : World} {B d k k' : Nat} {D : Dk} (h : DkAt w B d k D) (hk : k ≤ k') : DkAt w B d k' D := by
  obtain ⟨s, m, pv, Dm, h⟩ := h
  exact ⟨s, m, pv, Dm, h.le, h.self, h.sure, h.map.mono hk, h.now, h.pend⟩
theorem FAt.mono {w : World} {B f d k k' : Nat} {D : Dk} (h : FAt w B f d k D) (hk : k ≤ k') : FAt w B f d k' D := ⟨h.le, h.self, h.disk.mono hk⟩
/-- a disk within bounds -/
structure Fine (D : Dk) : Prop where
  n : D.sure.length ≤ 16384
  writes : 0 ≤ D.writes ∧ D.writes < 1000000
  reads : 0 ≤ D.reads ∧ D.reads < 1000000
  left : -1 ≤ D.left ∧ D.left ≤ 9223372036854775807
  pend : D.pend.length ≤ 1000000
theorem at_eq {D : Dk} {id : Int} (h : noPage D.sure.length id = false) : D.at_ id = if D.down then 4 else 0 := by
  have h' : ¬ id < 2 ∧ ¬ (D.sure.length : Int) ≤ id := by simpa [noPage] using h
  unfold Dk.at_
  rw [if_neg (show ¬ (id < 0 ∨ (D.sure.length : Int) ≤ id) by omega)]
/-- the disk's map is the same block, what else is no cells is as it was -/
structure MapStep (d : Nat) (w w' : World) : Prop where
  cell : w'.cell? ⟨d, 1, none⟩ = w.cell? ⟨d, 1, none⟩
  oth : ∀ m, w.cell? ⟨d, 1, none⟩ = some (.map (some m)) → OthM m w w'
  row : w'.cell? ⟨d, 0, none⟩ = w.cell? ⟨d, 0, none⟩
theorem MapStep.refl (d : Nat) (w : World) : MapStep d w w := ⟨rfl, fun m _ => OthM.refl m w, rfl⟩
theorem MapStep.trans {d : Nat} {a b c : World} (h : MapStep d a b) (g : MapStep d b c) : MapStep d a c := ⟨g.1.trans h.1, fun m hm => (h.2 m hm).trans (g.2 m (h.1.trans hm)), g.row.trans h.row⟩
theorem MapStep.below {d : Nat} {w w' : World} (hb : Below w.heap.size w w') (hd : d < w.heap.size) : MapStep d w w' := ⟨hb.cell hd, fun _ _ => OthM.below hb, hb.cell hd⟩
theorem wrote_len (D : Dk) (i : Int) (t : Bs) : (D.wrote i t).sure.length = D.sure.length := by
  unfold Dk.wrote
  split
  · rfl
  · split <;> rfl
theorem DkStep.maps {B d k k' : Nat} {D D' : Dk} {w w' : World} (h : DkStep B d k k' D D' w w') (hl : D'.sure.length = D.sure.length) : MapStep d w w' := by
  obtain ⟨s, m, pv, Dm, pv', Dm', h1, h2, h3⟩ := h
  have e1 : w.cell? ⟨d, 1, none⟩ = some (.map (some m)) := h1.self.cell 1
  have e2 : w'.cell? ⟨d, 1, none⟩ = some (.map (some m)) := h2.self.cell 1
  have r1 : w.cell? ⟨d, 0, none⟩ = some (.slice (some ⟨s, 0, none⟩) D.sure.length D.sure.length) := h1.self.cell 0
  have r2 : w'.cell? ⟨d, 0, none⟩ = some (.slice (some ⟨s, 0, none⟩) D'.sure.length D'.sure.length) := h2.self.cell 0
  refine ⟨e2.trans e1.symm, fun m' hm' => ?_, by rw [r1, r2, hl]⟩
  rw [e1] at hm'
  injection hm' with hm'
  injection hm' with hm'
  injection hm' with hm'
  subst hm'
  exact h3
theorem DkStep.disk {B d k k' : Nat} {D D' : Dk} {w w' : World} (h : DkStep B d k k' D D' w w') : DkAt w' B d k' D' := by
  obtain ⟨s, m, pv, Dm, pv', Dm', h1, h2, h3⟩ := h
  exact ⟨s, m, pv', Dm', h2⟩
theorem DkAt.dlt {w : World} {B d k : Nat} {D : Dk} (h : DkAt w B d k D) : d < w.heap.size := by
  obtain ⟨s, m, pv, Dm, h2⟩ := h
  exact h2.self.lt
def FWEnd2 (B f d k : Nat) (x : Int) (D' : Dk) (w : World) (e : Ending) (w' : World) : Prop := e = .returned (.int .i64 x) ∧ FAt w' B f d k D' ∧ Below B w w' ∧ Kept w w' ∧ MapStep d w w'
def FWEnd (B f d k : Nat) (x : Int) (D' : Dk) (w : World) (e : Ending) (w' : World) : Prop := e = .returned (.int .i64 x) ∧ FAt w' B f d k D' ∧ Below B w w' ∧ Kept w w'
set_option maxRecDepth 100000 in
set_option maxHeartbeats 1000000 in
theorem fwrite_any2 {w : World} {B f d k : Nat} {D : Dk} (h : FAt w B f d k D) (hF : Fine D) (hk : k < maxLen) (hT : HT w) (hB : B ≤ w.heap.size) (id : Int) (kind : Nat) (hkd : kind < 256) (b : Bs) :
    Calls Tryz.prog 18 #[.pointer (some ⟨f, 0, none⟩), .int .i64 id, .int .u8 kind, str b] w (FWEnd2 B f d (k + 1) (D.fputE id b) (D.fput id kind b) w) := by
  have hpg := ppage_any h id
  have hf := h.self.cell 0
  have hdl := h.disk.dlt
  cases hno : noPage D.sure.length id with
  | true =>
    have e1 : D.fputE id b = 40 := by unfold Dk.fputE; rw [hno]; rfl
    have e2 : D.fput id kind b = D := by unfold Dk.fput; rw [hno]; rfl
    rw [e1, e2]
    rw [hno] at hpg
    clear e1 e2
    unfold str
    go_enter Tryz.func18, Tryz.ntmps18
    go_wp2_with fail
    refine Calls.mono hpg ?_
    rintro e w1 ⟨rfl, rfl⟩
    go_wp2
    go_ret
    exact ⟨rfl, h.mono (by omega), Below.refl _ _, Kept.refl _, MapStep.refl _ _⟩
  | false =>
    rw [hno] at hpg
    have hb2 : ¬ id < 2 ∧ ¬ (D.sure.length : Int) ≤ id := by simpa [noPage] using hno
    have hat := at_eq hno
    have hn := hF.n
    by_cases hl : 240 < b.length
    · have e1 : D.fputE id b = 50 := by unfold Dk.fputE; rw [hno, if_neg (by simp), if_pos hl]
      have e2 : D.fput id kind b = D := by unfold Dk.fput; rw [hno, if_neg (by simp), if_pos hl]
      rw [e1, e2]
      clear e1 e2
      have hs := seal_long id kind b hl w
      unfold SealEnd at hs
      unfold str
      go_enter Tryz.func18, Tryz.ntmps18
      go_wp2_with fail
      refine Calls.mono hpg ?_
      rintro e w1 ⟨rfl, rfl⟩
      go_wp2_with fail
      refine Calls.mono hs ?_
      rintro e w2 ⟨rfl, hb⟩
      go_wp2
      go_ret
      exact ⟨rfl, (h.keep hb).mono (by omega), hb.mono hB, Kept.below hb, MapStep.below hb hdl⟩
    · obtain ⟨n, rfl⟩ := Int.eq_ofNat_of_zero_le (show 0 ≤ id by omega)
      have hs := seal_ok n kind b (by omega) hkd (by omega) w hT
      have hplen := Pg.page_length n kind b (by omega)
      have e1 : D.fputE n b = if D.down then 4 else D.wroteE := by unfold Dk.fputE; rw [hno, if_neg (by simp), if_neg hl]
      have e2 : D.fput n kind b = if D.down then D else D.wrote n (Pg.page n kind b) := by unfold Dk.fput; rw [hno, if_neg (by simp), if_neg hl]; rfl
      rw [e1, e2]
      unfold SealEnd at hs
      generalize Pg.page n kind b = P at *
      cases hdn : D.down with
      | true =>
        rw [hdn] at hat
        have hw := fun W (h : DkAt W B d k D) => write_bad h (n : Int) P (by rw [hat]; decide)
        rw [hat] at hw
        have HW := Lib.hid hw
        clear e1 e2 hat hw
        unfold str
        go_enter Tryz.func18, Tryz.ntmps18
        go_wp2_with fail
        refine Calls.mono hpg ?_
        rintro e w1 ⟨rfl, rfl⟩
        go_wp2_with fail
        refine Calls.mono hs ?_
        rintro e w2 ⟨rfl, hb⟩
        have h2 := h.keep hb
        have hf2 := h2.self.cell 0
        go_wp2_with fail
        refine Calls.mono (HW.out _ h2.disk) ?_
        rintro e w3 ⟨rfl, rfl⟩
        go_wp2
        go_ret
        exact ⟨rfl, h2.mono (by omega), hb.mono hB, Kept.below hb, MapStep.below hb hdl⟩
      | false =>
        rw [hdn] at hat
        have hw := fun W (h : DkAt W B d k D) hBW => write_ok2 h (n : Int) P (by rw [hat]; rfl) hplen hk (by have := hF.n; simp [Lit.wf, IntKind.min, IntKind.max, IntKind.signed, IntKind.bits]; omega) ⟨hF.writes.1, by have := hF.writes.2; omega⟩ hF.left.2 hF.pend hBW
        have HW := Lib.hid hw
        clear e1 e2 hat hw
        unfold str at *
        go_enter Tryz.func18, Tryz.ntmps18
        go_wp2_with fail
        refine Calls.mono hpg ?_
        rintro e w1 ⟨rfl, rfl⟩
        go_wp2_with fail
        refine Calls.mono hs ?_
        rintro e w2 ⟨rfl, hb⟩
        have h2 := h.keep hb
        have hf2 := h2.self.cell 0
        go_wp2_with fail
        refine Calls.mono (HW.out _ h2.disk (Nat.le_trans hB hb.size)) ?_
        rintro e w3 ⟨rfl, hS3, hb3, hk3⟩
        have hD3 := hS3.disk
        have hM3 := (MapStep.below hb hdl).trans (hS3.maps (wrote_len _ _ _))
        go_wp2
        go_ret
        exact ⟨rfl, ⟨h2.le, hk3 _ _ _ h2.self (by decide) (by decide), hD3⟩, (hb.mono hB).trans hb3, (Kept.below hb).trans hk3, hM3⟩
theorem fwrite_any {w : World} {B f d k : Nat} {D : Dk} (h : FAt w B f d k D) (hF : Fine D) (hk : k < maxLen) (hT : HT w) (hB : B ≤ w.heap.size) (id : Int) (kind : Nat) (hkd : kind < 256) (b : Bs) :
    Calls Tryz.prog 18 #[.pointer (some ⟨f, 0, none⟩), .int .i64 id, .int .u8 kind, str b] w (FWEnd B f d (k + 1) (D.fputE id b) (D.fput id kind b) w) :=
  (fwrite_any2 h hF hk hT hB id kind hkd b).mono fun _ _ h => ⟨h.1, h.2.1, h.2.2.1, h.2.2.2.1⟩
end Go.Proofs.YtlgbcogdogpihaaGreatDoor
namespace Go.Proofs.YtlgbcogdogpihaaGreatDoor
open Go.RowKit Go.Shelf
/-- what a sector's bytes are, as a page -/
def PageIs (D : Dk) (id : Int) (o : Option (Nat × Bs)) : Prop := (D.get id = zeroL ∧ o = none) ∨ ∃ k b, k < 256 ∧ b.length ≤ 240 ∧ D.get id = Pg.page id.toNat k b ∧ o = some (k, b)
def frB (n : Nat) (down : Bool) (id : Int) (kind : Nat) (o : Option (Nat × Bs)) : Bs × Int :=
  if noPage n id then ([], 40) else if down then ([], 4) else match o with
  | none => ([], 3)
  | some (k, b) => if k = kind then (b, 0) else ([], 3)
def Dk.readD (D : Dk) (id : Int) : Dk := if noPage D.sure.length id then D else if D.down then D else { D with reads := D.reads + 1 }
/-- what is no cells is as it was -/
def Oth_ (w w' : World) : Prop := ∀ (m : Nat) (o : Obj), w.heap[m]? = some o → o.isCells = false → w'.heap[m]? = some o
def FREnd (B f d k : Nat) (x : Bs × Int) (D' : Dk) (w : World) (e : Ending) (w' : World) : Prop := e = .returned (.tuple #[str x.1, .int .i64 x.2]) ∧ FAt w' B f d k D' ∧ Below B w w' ∧ Kept w w' ∧ Oth_ w w' ∧ w'.cell? ⟨d, 1, none⟩ = w.cell? ⟨d, 1, none⟩
theorem Oth_.refl (w : World) : Oth_ w w := fun _ _ h _ => h
theorem Oth_.trans {a b c : World} (h : Oth_ a b) (h2 : Oth_ b c) : Oth_ a c := fun m o hm hc => h2 m o (h m o hm hc) hc
theorem Oth_.below {w w' : World} (hb : Below w.heap.size w w') : Oth_ w w' := fun m _ h _ => (hb.block m (Array.getElem?_eq_some_iff.1 h).1).trans h
theorem Oth_.grown {w w' : World} {d : Nat} {ty : TypeId} {cs : Array Value} (hd : Blk w d ty cs) (hg : w.grownBy w' (some d)) : Oth_ w w' := fun m o h hc =>
  (hg.block m (Array.getElem?_eq_some_iff.1 h).1 (fun e => by
    have e := Option.some.inj e
    subst e
    have := h.symm.trans hd
    cases this
    cases hc)).trans h
theorem Kept.grown {w w' : World} {d : Nat} {cs : Array Value} (hd : Blk w d 84 cs) (hg : w.grownBy w' (some d)) : Kept w w' := fun _ _ _ hb h1 _ => hb.grown hg (fun e => hb.ne_ hd h1 (Option.some.inj e))
set_option maxRecDepth 100000 in
set_option maxHeartbeats 1000000 in
theorem fread_any {w : World} {B f d k : Nat} {D : Dk} (h : FAt w B f d k D) (hF : Fine D) (hT : HT w) (hB0 : 0 < B) (hB : B ≤ w.heap.size) (id : Int) (kind : Nat) (o : Option (Nat × Bs)) (ho : noPage D.sure.length id = false → D.down = false → PageIs D id o) :
    Calls Tryz.prog 34 #[.pointer (some ⟨f, 0, none⟩), .int .i64 id, .int .u8 kind] w (FREnd B f d k (frB D.sure.length D.down id kind o) (D.readD id) w) := by
  have hpg := ppage_any h id
  have hf := h.self.cell 0
  have hself := h.self
  have hfle := h.le
  cases hno : noPage D.sure.length id with
  | true =>
    have e1 : frB D.sure.length D.down id kind o = ([], 40) := by unfold frB; rw [hno]; rfl
    have e2 : D.readD id = D := by unfold Dk.readD; rw [hno]; rfl
    rw [e1, e2]
    rw [hno] at hpg
    clear e1 e2 ho
    go_enter Tryz.func34, Tryz.ntmps34
    go_wp2_with fail
    refine Calls.mono hpg ?_
    rintro e w1 ⟨rfl, rfl⟩
    go_wp2
    go_ret2
    exact ⟨rfl, h, Below.refl _ _, Kept.refl _, Oth_.refl _, rfl⟩
  | false =>
    rw [hno] at hpg
    have hb2 : ¬ id < 2 ∧ ¬ (D.sure.length : Int) ≤ id := by simpa [noPage] using hno
    have hat := at_eq hno
    have hn := hF.n
    cases hdn : D.down with
    | true =>
      have e1 : frB D.sure.length true id kind o = ([], 4) := by unfold frB; rw [hno]; rfl
      have e2 : D.readD id = D := by unfold Dk.readD; rw [hno, hdn]; rfl
      rw [e1, e2]
      rw [hdn] at hat
      have hr := read_bad h.disk id (by rw [hat]; decide)
      rw [hat] at hr
      clear e1 e2 ho hat
      unfold str at hr
      go_enter Tryz.func34, Tryz.ntmps34
      go_wp2_with fail
      refine Calls.mono hpg ?_
      rintro e w1 ⟨rfl, rfl⟩
      go_wp2_with fail
      refine Calls.mono hr ?_
      rintro e w2 ⟨rfl, rfl⟩
      go_wp2
      go_ret2
      exact ⟨rfl, h, Below.refl _ _, Kept.refl _, Oth_.refl _, rfl⟩
    | false =>
      obtain ⟨n, rfl⟩ := Int.eq_ofNat_of_zero_le (show 0 ≤ id by omega)
      have e2 : D.readD n = { D with reads := D.reads + 1 } := by unfold Dk.readD; rw [hno, hdn]; rfl
      have ho := ho hno hdn
      rw [e2]
      rw [hdn] at hat
      have hr := read_ok h.disk (n : Int) (by rw [hat]; rfl) (by simp [Lit.wf, IntKind.min, IntKind.max, IntKind.signed, IntKind.bits]; omega) ⟨hF.reads.1, by have := hF.reads.2; omega⟩
      have hse : ∃ cs, Blk w d 84 cs ∧ B ≤ d := by obtain ⟨s, m, pv, Dm, h4⟩ := h.disk; exact ⟨_, h4.self, h4.le.1⟩
      obtain ⟨cs, hse, hle⟩ := hse
      rcases ho with ⟨hg, rfl⟩ | ⟨k', b', hk', hb', hg, rfl⟩
      · have e1 : frB D.sure.length false n kind none = ([], 3) := by unfold frB; rw [hno]; rfl
        rw [e1]
        rw [hg] at hr
        have hop := fun W hT => open_zero n (by omega) W hT
        unfold OpenEnd at hop
        unfold str at hr
        generalize zeroL = zl at *
        have HOP := Lib.hid hop
        clear e1 e2 hat hop hg
        go_enter Tryz.func34, Tryz.ntmps34
        go_wp2_with fail
        refine Calls.mono hpg ?_
        rintro e w1 ⟨rfl, rfl⟩
        go_wp2_with fail
        refine Calls.mono hr ?_
        rintro e w2 ⟨rfl, hD2, hg2, hcm2⟩
        have hbw2 := below_of_grown hg2 hB hle
        have hkp2 := Kept.grown hse hg2
        have hmp2 := Oth_.grown hse hg2
        have hF2 : FAt w2 B f d k { D with reads := D.reads + 1 } := ⟨hfle, hkp2 _ _ _ hself (by decide) (by decide), hD2⟩
        go_wp2_with fail
        refine Calls.mono (HOP.out _ (hT.below hbw2 hB0)) ?_
        rintro e w3 ⟨rfl, hb3⟩
        go_wp2
        go_ret2
        exact ⟨rfl, hF2.keep hb3, hbw2.trans (hb3.mono (Nat.le_trans hB hbw2.size)), hkp2.trans (Kept.below hb3), hmp2.trans (Oth_.below hb3), (hb3.cell (Nat.lt_of_lt_of_le hse.lt hg2.size)).trans hcm2⟩
      · rw [hg] at hr
        have hop := fun W hT => open_page n k' b' (by omega) hk' hb' W hT
        rw [Int.toNat_natCast] at hr
        unfold OpenEnd at hop
        unfold str at hr
        have hkk : ((k' : Int) != (kind : Int)) = !decide (k' = kind) := by
          by_cases e : k' = kind
          · subst e; simp
          · simp [e]; omega
        by_cases hk2 : k' = kind
        · have e1 : frB D.sure.length false n kind (some (k', b')) = (b', 0) := by unfold frB; rw [hno, if_neg (by simp), if_neg (by simp)]; exact if_pos hk2
          rw [e1]
          generalize Pg.page n k' b' = zl at *
          have HOP := Lib.hid hop
          have hq : ((k' : Int) != (kind : Int)) = false := by rw [hkk]; simp [hk2]
          clear e1 e2 hat hop hg hkk hk2
          go_enter Tryz.func34, Tryz.ntmps34
          go_wp2_with fail
          refine Calls.mono hpg ?_
          rintro e w1 ⟨rfl, rfl⟩
          go_wp2_with fail
          refine Calls.mono hr ?_
          rintro e w2 ⟨rfl, hD2, hg2, hcm2⟩
          have hbw2 := below_of_grown hg2 hB hle
          have hkp2 := Kept.grown hse hg2
          have hmp2 := Oth_.grown hse hg2
          have hF2 : FAt w2 B f d k { D with reads := D.reads + 1 } := ⟨hfle, hkp2 _ _ _ hself (by decide) (by decide), hD2⟩
          go_wp2_with fail
          refine Calls.mono (HOP.out _ (hT.below hbw2 hB0)) ?_
          rintro e w3 ⟨rfl, hb3⟩
          go_wp2
          go_ret2
          exact ⟨rfl, hF2.keep hb3, hbw2.trans (hb3.mono (Nat.le_trans hB hbw2.size)), hkp2.trans (Kept.below hb3), hmp2.trans (Oth_.below hb3), (hb3.cell (Nat.lt_of_lt_of_le hse.lt hg2.size)).trans hcm2⟩
        · have e1 : frB D.sure.length false n kind (some (k', b')) = ([], 3) := by unfold frB; rw [hno, if_neg (by simp), if_neg (by simp)]; exact if_neg hk2
          rw [e1]
          generalize Pg.page n k' b' = zl at *
          have HOP := Lib.hid hop
          have hq : ((k' : Int) != (kind : Int)) = true := by rw [hkk]; simp [hk2]
          clear e1 e2 hat hop hg hkk hk2
          go_enter Tryz.func34, Tryz.ntmps34
          go_wp2_with fail
          refine Calls.mono hpg ?_
          rintro e w1 ⟨rfl, rfl⟩
          go_wp2_with fail
          refine Calls.mono hr ?_
          rintro e w2 ⟨rfl, hD2, hg2, hcm2⟩
          have hbw2 := below_of_grown hg2 hB hle
          have hkp2 := Kept.grown hse hg2
          have hmp2 := Oth_.grown hse hg2
          have hF2 : FAt w2 B f d k { D with reads := D.reads + 1 } := ⟨hfle, hkp2 _ _ _ hself (by decide) (by decide), hD2⟩
          go_wp2_with fail
          refine Calls.mono (HOP.out _ (hT.below hbw2 hB0)) ?_
          rintro e w3 ⟨rfl, hb3⟩
          go_wp2
          go_ret2
          exact ⟨rfl, hF2.keep hb3, hbw2.trans (hb3.mono (Nat.le_trans hB hbw2.size)), hkp2.trans (Kept.below hb3), hmp2.trans (Oth_.below hb3), (hb3.cell (Nat.lt_of_lt_of_le hse.lt hg2.size)).trans hcm2⟩
end Go.Proofs.YtlgbcogdogpihaaGreatDoor
namespace Go.Proofs.YtlgbcogdogpihaaGreatDoor
open Go.RowKit Go.Shelf
/-- the types of a file's blocks -/
def fileT (t : TypeId) : Bool := t == 73 || t == 84 || t == 9 || t == 160
/-- maps are as they were -/
def Maps_ (w w' : World) : Prop := ∀ (m : Nat) (es : Array MapEntry) (c : Nat), w.heap[m]? = some (.map es c) → w'.heap[m]? = some (.map es c)
theorem Maps_.refl (w : World) : Maps_ w w := fun _ _ _ h => h
theorem Maps_.trans {a b c : World} (h : Maps_ a b) (h2 : Maps_ b c) : Maps_ a c := fun m es t hm => h2 m es t (h m es t hm)
theorem Oth_.maps {a b : World} (h : Oth_ a b) : Maps_ a b := fun m _ _ hm => h m _ hm rfl
/-- a file's blocks lie as they lay -/
structure KeepF (w w' : World) : Prop where
  blk : ∀ (g : Nat) (t : TypeId) (cs : Array Value), Blk w g t cs → fileT t = true → Blk w' g t cs
  maps : Maps_ w w'
theorem KeepF.refl (w : World) : KeepF w w := ⟨fun _ _ _ h _ => h, Maps_.refl w⟩
theorem KeepF.trans {a b c : World} (h : KeepF a b) (k : KeepF b c) : KeepF a c := ⟨fun g t cs hb ht => k.blk g t cs (h.blk g t cs hb ht) ht, h.maps.trans k.maps⟩
theorem KeepF.below {w w' : World} (h : Below w.heap.size w w') : KeepF w w' := ⟨fun _ _ _ hb _ => hb.below h hb.lt, (Oth_.below h).maps⟩
theorem KeepF.grown {w w' : World} {g : Nat} {ty : TypeId} {cs : Array Value} (hd : Blk w g ty cs) (ht : fileT ty = false) (hg : w.grownBy w' (some g)) : KeepF w w' :=
  ⟨fun i t c hb htt => hb.grown hg (fun e => by
    have e := Option.some.inj e
    subst e
    have := hb.symm.trans hd
    injection this with this
    injection this with _ this
    subst this
    rw [ht] at htt; cases htt), (Oth_.grown hd hg).maps⟩
theorem KeepF.set_ {w : World} {g : Nat} {ty : TypeId} {cs : Array Value} (hd : Blk w g ty cs) (ht : fileT ty = false) (j : Nat) (u : Value) : KeepF w (w.setCell ⟨g, j, none⟩ u) :=
  KeepF.grown hd ht (only_setCell (p := ⟨g, j, none⟩) (World.grownBy.refl w (some g)) (.inl rfl) u)
theorem LO.keepF {α : Type} {E : Enc α} {ty : TypeId} {w w' : World} {base : Nat} {v : Value} {l : List α} (h : LO E ty w base v l) (hk : KeepF w w') (ht : fileT ty = true) : LO E ty w' base v l := by
  rcases h with ⟨h3, h4 | ⟨g, cap, cur, hv, hb, hh, r⟩⟩
  · exact ⟨h3, .inl h4⟩
  · exact ⟨h3, .inr ⟨g, cap, cur, hv, hb, hk.blk g ty _ hh ht, r⟩⟩
theorem DAt.keepF {w w' : World} {B d k : Nat} {D : Dk} {s m : Nat} {pv : Value} {Dm : DataW Value} (h : DAt w B d k D s m pv Dm) (hk : KeepF w w') : DAt w' B d k D s m pv Dm :=
  ⟨h.le, hk.blk _ _ _ h.self (by decide), hk.blk _ _ _ h.sure (by decide), by obtain ⟨es, clock, hb, r⟩ := h.map; exact ⟨es, clock, hk.maps _ _ _ hb, r⟩, h.now, h.pend.keepF hk (by decide)⟩
theorem FAt.keepF {w w' : World} {B f d k : Nat} {D : Dk} (h : FAt w B f d k D) (hk : KeepF w w') : FAt w' B f d k D :=
  ⟨h.le, hk.blk _ _ _ h.self (by decide), by obtain ⟨s, m, pv, Dm, h2⟩ := h.disk; exact ⟨s, m, pv, Dm, h2.keepF hk⟩⟩
theorem Kept.far {w w2 w3 : World} {g : Nat} (h : Kept w w2) (hg : w2.grownBy w3 (some g)) (hge : w.heap.size ≤ g) : Kept w w3 := fun i t cs hb h1 h2 =>
  (h i t cs hb h1 h2).grown hg (fun e => by have := hb.lt; have := Option.some.inj e; omega)
theorem Oth_.far {w w2 w3 : World} {g : Nat} (h : Oth_ w w2) (hg : w2.grownBy w3 (some g)) (hge : w.heap.size ≤ g) : Oth_ w w3 := fun m o hm hc =>
  (hg.block m (Array.getElem?_eq_some_iff.1 (h m o hm hc)).1 (fun e => by have := (Array.getElem?_eq_some_iff.1 hm).1; have := Option.some.inj e; omega)).trans (h m o hm hc)
/-- three cells of a link stored -/
theorem link_store {w : World} {g : Nat} {a b c : Value} (u0 u1 u2 : Value) (h : Blk w g 94 #[a, b, c]) :
    Blk (((w.setCell ⟨g, 0, none⟩ u0).setCell ⟨g, 1, none⟩ u1).setCell ⟨g, 2, none⟩ u2) g 94 #[u0, u1, u2] ∧ w.grownBy (((w.setCell ⟨g, 0, none⟩ u0).setCell ⟨g, 1, none⟩ u1).setCell ⟨g, 2, none⟩ u2) (some g) := by
  refine ⟨?_, only_setCell (p := ⟨g, 2, none⟩) (only_setCell (p := ⟨g, 1, none⟩) (only_setCell (p := ⟨g, 0, none⟩) (World.grownBy.refl w (some g)) (.inl rfl) u0) (.inl rfl) u1) (.inl rfl) u2⟩
  have := ((h.set_ 0 u0).set_ 1 u1).set_ 2 u2
  simpa using this
theorem FAt.dlt {w : World} {B f d k : Nat} {D : Dk} (h : FAt w B f d k D) : d < w.heap.size := by
  obtain ⟨s, m, pv, Dm, h2⟩ := h.disk
  exact h2.self.lt
theorem cell_off {w w' : World} {g b j : Nat} (hg : w.grownBy w' (some g)) (hb : b < w.heap.size) (hne : ¬ b = g) : w'.cell? ⟨b, j, none⟩ = w.cell? ⟨b, j, none⟩ :=
  World.cell?_of_block (hg.block b hb (fun e => hne (Option.some.inj e)))
/-- a page of a chain as read: its number, its runs, an error -/
abbrev Lnk := Int × List Run × Int
def foP (id : Int) (o : Option (Int × List Run)) : Lnk × Int := match o with
  | none => ((id, [], 3), 0)
  | some p => ((id, p.2, 0), p.1)
def foOf (id : Int) (b : Bs) (x : Int) : Lnk × Int := if x = 0 then foP id (Cp.prog b) else ((0, [], if x = 40 then 3 else x), 0)
theorem foOf_ok {id : Int} {b : Bs} {o : Option (Int × List Run)} (ho : o = Cp.prog b) : foOf id b 0 = foP id o := by
  rw [ho]; exact if_pos rfl
theorem foOf_err {id x : Int} {b : Bs} (h : x ≠ 0) : foOf id b x = ((0, [], if x = 40 then 3 else x), 0) := if_neg h
def fo (n : Nat) (down : Bool) (id : Int) (o : Option (Nat × Bs)) : Lnk × Int := foOf id (frB n down id 3 o).1 (frB n down id 3 o).2
def FoEnd (B f d k : Nat) (y : Lnk × Int) (D' : Dk) (w : World) (e : Ending) (w' : World) : Prop := ∃ v, e = .returned (.tuple #[.agg #[.int .i64 y.1.1, v, .int .i64 y.1.2.2], .int .i64 y.2]) ∧ Own w' w.heap.size v y.1.2.1 ∧ FAt w' B f d k D' ∧ Below B w w' ∧ Kept w w' ∧ Oth_ w w' ∧ w'.cell? ⟨d, 1, none⟩ = w.cell? ⟨d, 1, none⟩
set_option maxRecDepth 100000 in
set_option maxHeartbeats 1000000 in
theorem follow_any {w : World} {B f d k : Nat} {D : Dk} (h : FAt w B f d k D) (hF : Fine D) (hT : HT w) (hB0 : 0 < B) (hB : B ≤ w.heap.size) (id : Int) (o : Option (Nat × Bs)) (ho : noPage D.sure.length id = false → D.down = false → PageIs D id o) :
    Calls Tryz.prog 87 #[.pointer (some ⟨f, 0, none⟩), .int .i64 id] w (FoEnd B f d k (fo D.sure.length D.down id o) (D.readD id) w) := by
  have hrd := fun W (hW : FAt W B f d k D) (hTW : HT W) (hBW : B ≤ W.heap.size) => fread_any hW hF hTW hB0 hBW id 3 o ho
  obtain ⟨y, hy⟩ : ∃ y, y = fo D.sure.length D.down id o := ⟨_, rfl⟩
  rw [← hy]
  unfold fo at hy
  unfold FREnd str at hrd
  generalize frB D.sure.length D.down id 3 o = r at *
  obtain ⟨b, x⟩ := r
  generalize D.readD id = D' at *
  have HY := Lib.hid hy
  have HR := Lib.hid hrd
  clear hy hrd ho
  have hb0 : Below w.heap.size w (w.alloc (.cells #[.int .i64 0, .slice none 0 0, .int .i64 0] 94)) := (Below.refl _ w).alloc (Nat.le_refl _) _
  go_enter Tryz.func87, Tryz.ntmps87
  go_wp2_with fail
  refine Calls.mono (HR.out _ (h.keep hb0) (hT.below (hb0.mono hB) hB0) (Nat.le_trans hB hb0.size)) ?_
  rintro e w1 ⟨rfl, hF1, hb1, hk1, hm1, hc1⟩
  have hlt1 : w.heap.size < w1.heap.size := by have := hb1.size; simp at this; omega
  have hlk := hk1 _ _ _ (Blk.new w 94 #[.int .i64 0, .slice none 0 0, .int .i64 0]) (by decide) (by decide)
  have hcm1 := hc1.trans (hb0.cell (p := ⟨d, 1, none⟩) h.dlt)
  have hdl := h.dlt
  clear hc1
  have hbw1 := (hb0.mono hB).trans hb1
  have hkw1 := (Kept.below hb0).trans hk1
  have hmw1 := (Oth_.below hb0).trans hm1
  clear hb0 hb1 hk1 hm1
  have c0 := hlk.cell 0
  have c1 := hlk.cell 1
  have c2 := hlk.cell 2
  have f0 := hlk.frozen 0
  have f1 := hlk.frozen 1
  have f2 := hlk.frozen 2
  by_cases hx0 : x = 0
  · subst hx0
    have hpa := fun W => parse_any b W
    obtain ⟨o2, ho2⟩ : ∃ o2, o2 = Cp.prog b := ⟨_, rfl⟩
    simp only [← ho2] at hpa
    have HP := Lib.hid hpa
    have HO := Lib.hid ho2
    clear hpa ho2
    go_wp2_with fail
    refine Calls.mono (HP.out _) ?_
    rintro e w2 ⟨n, v, l, x2, rfl, hown, hb2, hcase⟩
    have HC := Lib.hid hcase
    clear hcase
    obtain ⟨A, c, rfl⟩ := hown.form
    have hlk2 := hlk.below hb2 hlt1
    have c0 := hlk2.cell 0
    have c1 := hlk2.cell 1
    have c2 := hlk2.cell 2
    have f0 := hlk2.frozen 0
    have f1 := hlk2.frozen 1
    have f2 := hlk2.frozen 2
    go_wp2
    obtain ⟨hlk3, hg3⟩ := link_store (.int .i64 id) (.slice A l.length c) (.int .i64 x2) hlk2
    generalize ((w2.setCell ⟨w.heap.size, 0, none⟩ (.int .i64 id)).setCell ⟨w.heap.size, 1, none⟩ (.slice A l.length c)).setCell ⟨w.heap.size, 2, none⟩ (.int .i64 x2) = w3 at *
    have hz := hb2.size
    have hbase : w.heap.size ≤ w1.heap.size := Nat.le_of_lt hlt1
    have hown3 : Own w3 w.heap.size (.slice A l.length c) l := own_lower (World.ownsRow.kept hown hg3 (.inr (fun e => by have := (hown.lt _ e).1; omega))) hbase
    have hF3 := (hF1.keep hb2).keepF (KeepF.grown hlk2 (by decide) hg3)
    have hbb := (hbw1.trans (hb2.mono (Nat.le_trans hB hbase))).grown hg3 (by omega) (fun k e => by cases e; exact hB)
    have hkk := (hkw1.trans (Kept.below hb2)).far hg3 (Nat.le_refl _)
    have hmm := (hmw1.trans (Oth_.below hb2)).far hg3 (Nat.le_refl _)
    have hcc := (cell_off hg3 (show d < w2.heap.size by omega) (by show ¬ d = _; omega)).trans ((hb2.cell (p := ⟨d, 1, none⟩) (show d < w1.heap.size by omega)).trans hcm1)
    have d0 := hlk3.cell 0
    have d1 := hlk3.cell 1
    have d2 := hlk3.cell 2
    simp at d0 d1 d2
    refine bodyPost_ret (v := .tuple #[.agg #[.int .i64 id, .slice A l.length c, .int .i64 x2], .int .i64 n]) (by simp [results, Tryz.f87, go_sem, d0, d1, d2]) rfl ?_
    rcases HC.out with ⟨h1, rfl, rfl, rfl⟩ | ⟨h1, rfl⟩
    · have hyy : y = ((id, [], 3), 0) := (HY.out.trans (foOf_ok HO.out)).trans (by rw [h1]; rfl)
      rw [hyy]
      exact ⟨_, rfl, hown3, hF3, hbb, hkk, hmm, hcc⟩
    · have hyy : y = ((id, l, 0), n) := (HY.out.trans (foOf_ok HO.out)).trans (by rw [h1]; rfl)
      rw [hyy]
      exact ⟨_, rfl, hown3, hF3, hbb, hkk, hmm, hcc⟩
  · have hyy : y = ((0, [], if x = 40 then 3 else x), 0) := HY.out.trans (foOf_err hx0)
    by_cases hx4 : x = 40
    · rw [if_pos hx4] at hyy
      have HYY := Lib.hid hyy
      subst hx4
      clear HY hyy
      go_wp2
      obtain ⟨hlk3, hg3⟩ := link_store (.int .i64 0) (.slice none 0 0) (.int .i64 3) hlk
      generalize ((w1.setCell ⟨w.heap.size, 0, none⟩ (.int .i64 0)).setCell ⟨w.heap.size, 1, none⟩ (.slice none 0 0)).setCell ⟨w.heap.size, 2, none⟩ (.int .i64 3) = w3 at *
      have d0 := hlk3.cell 0
      have d1 := hlk3.cell 1
      have d2 := hlk3.cell 2
      simp at d0 d1 d2
      refine bodyPost_ret (v := .tuple #[.agg #[.int .i64 0, .slice none 0 0, .int .i64 3], .int .i64 0]) (by simp [results, Tryz.f87, go_sem, d0, d1, d2]) rfl ?_
      rw [HYY.out]
      exact ⟨_, rfl, Own.nil_ _ _, hF1.keepF (KeepF.grown hlk (by decide) hg3), hbw1.grown hg3 (by omega) (fun k e => by cases e; exact hB), hkw1.far hg3 (Nat.le_refl _), hmw1.far hg3 (Nat.le_refl _), (cell_off hg3 (by omega) (by show ¬ d = _; omega)).trans hcm1⟩
    · have hq : (x == 40) = false := by simpa using hx4
      have hq2 : (x != 0) = true := by simpa using hx0
      rw [if_neg hx4] at hyy
      have HYY := Lib.hid hyy
      clear HY hyy
      go_wp2
      obtain ⟨hlk3, hg3⟩ := link_store (.int .i64 0) (.slice none 0 0) (.int .i64 x) hlk
      generalize ((w1.setCell ⟨w.heap.size, 0, none⟩ (.int .i64 0)).setCell ⟨w.heap.size, 1, none⟩ (.slice none 0 0)).setCell ⟨w.heap.size, 2, none⟩ (.int .i64 x) = w3 at *
      have d0 := hlk3.cell 0
      have d1 := hlk3.cell 1
      have d2 := hlk3.cell 2
      simp at d0 d1 d2
      refine bodyPost_ret (v := .tuple #[.agg #[.int .i64 0, .slice none 0 0, .int .i64 x], .int .i64 0]) (by simp [results, Tryz.f87, go_sem, d0, d1, d2]) rfl ?_
      rw [HYY.out]
      exact ⟨_, rfl, Own.nil_ _ _, hF1.keepF (KeepF.grown hlk (by decide) hg3), hbw1.grown hg3 (by omega) (fun k e => by cases e; exact hB), hkw1.far hg3 (Nat.le_refl _), hmw1.far hg3 (Nat.le_refl _), (cell_off hg3 (by omega) (by show ¬ d = _; omega)).trans hcm1⟩
end Go.Proofs.YtlgbcogdogpihaaGreatDoor
