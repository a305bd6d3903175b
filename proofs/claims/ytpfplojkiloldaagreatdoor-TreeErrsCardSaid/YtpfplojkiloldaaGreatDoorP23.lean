/- Reading a page, with nothing turned but the disk's counter. The walk of alloc's Flush, each page with a kind of its own. A range over an iterator that turns memory of its own: the law. What the round keeps (Kp), what the iterator may do between rounds (Ab), what it says of what it yields (G), how it ends (S, Sp): all speak of worlds. A region that draws its order, inside a round: by an invariant over what has been done. A region that draws its order: what each operation gives holds at its end, whatever order was drawn. -/
import Derived.Test.YtpfplojkiloldaaGreatDoorP13
import Derived.Test.YtpfplojkiloldaaGreatDoorP15
import Derived.Test.YtpfplojkiloldaaGreatDoorP22
set_option maxRecDepth 100000
namespace Go.Proofs.YtpfplojkiloldaaGreatDoor
open Go.RowKit Go.Shelf
structure FDt (w : World) (B f d k : Nat) (D : Dk) (s m : Nat) (pv : Value) (Dm : DataW Value) : Prop where
  le : B <= f
  self : Blk w f 99 #[.pointer (some ⟨d, 0, none⟩)]
  disk : DAt w B d k D s m pv Dm
section
variable {w w' : World} {B f d k : Nat} {D : Dk} {s m : Nat} {pv : Value} {Dm : DataW Value}
theorem FDt.dkat (h : FDt w B f d k D s m pv Dm) : DkAt w B d k D := ⟨_, _, _, _, h.disk⟩
theorem FDt.fat (h : FDt w B f d k D s m pv Dm) : FAt w B f d k D := ⟨h.le, h.self, h.dkat⟩
theorem FAt.open_ (h : FAt w B f d k D) : ∃ s m pv Dm, FDt w B f d k D s m pv Dm := by
  obtain ⟨s, m, pv, Dm, h4⟩ := h.disk
  exact ⟨s, m, pv, Dm, h.le, h.self, h4⟩
theorem FDt.keep (h : FDt w B f d k D s m pv Dm) (hb : Below w.heap.size w w') : FDt w' B f d k D s m pv Dm := ⟨h.le, h.self.below hb h.self.lt, h.disk.keep hb⟩
end
def FDEnd (B f d k s m : Nat) (pv : Value) (Dm : DataW Value) (x : Bs × Int) (D' : Dk) (w : World) (e : Ending) (w' : World) : Prop := e = .returned (.tuple #[str x.1, .int .i64 x.2]) /\ FDt w' B f d k D' s m pv Dm /\ Fr (fun g => g = d) w w'
set_option maxHeartbeats 1000000 in
theorem read_okD {w : World} {B d k : Nat} {D : Dk} {s m : Nat} {pv : Value} {Dm : DataW Value} (h : DAt w B d k D s m pv Dm) (i : Int) (hi : D.at_ i = 0) (hw : (Lit.int .i64 i).wf = true) (hr : 0 <= D.reads /\ D.reads < 4611686018427387904) :
    Calls Tryz.prog 157 #[.pointer (some ⟨d, 0, none⟩), .int .i64 i] w fun e w' => e = .returned (.tuple #[str (D.get i), .int .i64 0]) /\ DAt w' B d k { D with reads := D.reads + 1 } s m pv Dm /\ Fr (fun g => g = d) w w' := by
  obtain ⟨hdn, hi0, hin⟩ := at_zero hi
  obtain ⟨n, rfl⟩ := Int.eq_ofNat_of_zero_le hi0
  have hn : n < D.sure.length := by omega
  have h5 := h.self.cell 5
  have f5 := h.self.frozen 5
  simp only [dkCells] at h5
  have h1 := h.turn 5 (.int .i64 (D.reads + 1)) { D with reads := D.reads + 1 } rfl rfl rfl rfl
  have htk := tick_any d 5 D.reads w h5 f5 hr
  have g0 := h1.self.cell 0
  have g1 := h1.self.cell 1
  simp only [dkCells] at g0 g1
  have hsz : (dkCells s m pv D).size = 7 := rfl
  obtain ⟨v, ps, hlook, hv⟩ := h1.map.look_ok dkeyedI Tryz.underlying102 (Tryz.zeroValue9 (w.setCell ⟨d, 5, none⟩ (.int .i64 (D.reads + 1)))) (strR_mk _) (dkeyI hw)
  have hnow := h1.now n (.held (.string ⟨#[]⟩))
  have hsl := h1.sure.cell n
  rw [show ((D.sure.map str).toArray)[n]? = some (str D.sure[n]) by simp [hn]] at hsl
  have hsn : s < (w.setCell ⟨d, 5, none⟩ (.int .i64 (D.reads + 1))).heap.size := h1.sure.lt
  have hfin : DAt (w.setCell ⟨d, 5, none⟩ (.int .i64 (D.reads + 1))) B d k { D with reads := D.reads + 1 } s m pv Dm := h1
  have HF := Lib.hid hfin
  have HG := Lib.hid (Fr.set_ (w := w) (S := fun g => g = d) (g := d) (i := 5) rfl (.int .i64 (D.reads + 1)))
  have hget : D.get n = match D.now n with
      | some t => t
      | none => D.sure.getD n [] := rfl
  rw [hget]
  have hv2 := strR_inv hv
  obtain ⟨s', rfl, hz⟩ := hv2
  rw [hnow.2] at hz
  rw [hnow.1] at hlook
  have hat := fun W (hW : W = w) => (hW ▸ at_any ⟨s, m, pv, Dm, h⟩ (n : Int) : Calls Tryz.prog 99 #[.pointer (some ⟨d, 0, none⟩), .int .i64 n] W fun e w' => e = .returned (.int .i64 (D.at_ n)) /\ w' = W)
  have hat2 := hat w rfl
  rw [hi] at hat2
  rw [List.getD_eq_getElem?_getD, List.getElem?_eq_getElem hn, Option.getD_some]
  generalize D.sure[n] = sn at *
  cases hD : D.now n with
  | some t =>
    rw [hD] at hz hlook
    simp only [Option.isSome_some] at hlook
    have hs' : Value.string s' = str t := by
      have := (Prod.mk.inj hz).1
      injection this with this
      exact this.symm
    rw [hs'] at hlook
    unfold str at *
    simp only
    generalize D.sure.length = N at *
    clear hfin h h1 hnow hv hz hs' hat hget
    go_enter Tryz.func157, Tryz.ntmps157
    go_wp2_with fail
    refine Calls.mono hat2 ?_
    rintro e w1 ⟨rfl, rfl⟩
    go_wp2_with fail
    refine Calls.mono htk ?_
    rintro e w2 ⟨v2, rfl, rfl⟩
    go_wp2
    go_ret2
    exact ⟨rfl, HF.out, HG.out⟩
  | none =>
    rw [hD] at hz hlook
    simp only [Option.isSome_none] at hlook
    have hs' : s' = ⟨#[]⟩ := by
      have := (Prod.mk.inj hz).1
      injection this with this
      injection this with this
      exact this.symm
    rw [hs'] at hlook
    unfold str at *
    simp only
    have hni : (n : Int) < D.sure.length := hin
    generalize D.sure.length = N at *
    clear hfin h h1 hnow hv hz hs' hat hget
    go_enter Tryz.func157, Tryz.ntmps157
    go_wp2_with fail
    refine Calls.mono hat2 ?_
    rintro e w1 ⟨rfl, rfl⟩
    go_wp2_with fail
    refine Calls.mono htk ?_
    rintro e w2 ⟨v2, rfl, rfl⟩
    go_wp2
    go_ret2
    exact ⟨rfl, HF.out, HG.out⟩
set_option maxHeartbeats 1000000 in
theorem fread_D {w : World} {B f d k : Nat} {D : Dk} {s m : Nat} {pv : Value} {Dm : DataW Value} (h : FDt w B f d k D s m pv Dm) (hF : Fine D) (hT : HT w) (hB0 : 0 < B) (hB : B <= w.heap.size) (id : Int) (kind : Nat) (o : Option (Nat × Bs)) (ho : noPage D.sure.length id = false -> D.down = false -> PageIs D id o) :
    Calls Tryz.prog 120 #[.pointer (some ⟨f, 0, none⟩), .int .i64 id, .int .u8 kind] w (FDEnd B f d k s m pv Dm (frB D.sure.length D.down id kind o) (D.readD id) w) := by
  have hpg := ppage_any h.fat id
  have hf := h.self.cell 0
  have hself := h.self
  have hfle := h.le
  cases hno : noPage D.sure.length id with
  | true =>
    have e1 : frB D.sure.length D.down id kind o = ([], 40) := by unfold frB; rw [hno]; rfl
    have e2 : D.readD id = D := by unfold Dk.readD; rw [hno]; rfl
    rw [e1, e2]
    rw [hno] at hpg
    clear e1 e2 ho
    go_enter Tryz.func120, Tryz.ntmps120
    go_wp2_with fail
    refine Calls.mono hpg ?_
    rintro e w1 ⟨rfl, rfl⟩
    go_wp2
    go_ret2
    exact ⟨rfl, h, Fr.refl _⟩
  | false =>
    rw [hno] at hpg
    have hb2 : ¬ id < 2 /\ ¬ (D.sure.length : Int) <= id := by simpa [noPage] using hno
    have hat := at_eq hno
    have hn := hF.n
    cases hdn : D.down with
    | true =>
      have e1 : frB D.sure.length true id kind o = ([], 4) := by unfold frB; rw [hno]; rfl
      have e2 : D.readD id = D := by unfold Dk.readD; rw [hno, hdn]; rfl
      rw [e1, e2]
      rw [hdn] at hat
      have hr := read_bad h.dkat id (by rw [hat]; decide)
      rw [hat] at hr
      clear e1 e2 ho hat
      unfold str at hr
      go_enter Tryz.func120, Tryz.ntmps120
      go_wp2_with fail
      refine Calls.mono hpg ?_
      rintro e w1 ⟨rfl, rfl⟩
      go_wp2_with fail
      refine Calls.mono hr ?_
      rintro e w2 ⟨rfl, rfl⟩
      go_wp2
      go_ret2
      exact ⟨rfl, h, Fr.refl _⟩
    | false =>
      obtain ⟨n, rfl⟩ := Int.eq_ofNat_of_zero_le (show 0 <= id by omega)
      have e2 : D.readD n = { D with reads := D.reads + 1 } := by unfold Dk.readD; rw [hno, hdn]; rfl
      have ho := ho hno hdn
      rw [e2]
      rw [hdn] at hat
      have hr := read_okD h.disk (n : Int) (by rw [hat]; rfl) (by simp [Lit.wf, IntKind.min, IntKind.max, IntKind.signed, IntKind.bits]; omega) ⟨hF.reads.1, by have := hF.reads.2; omega⟩
      have hse := h.disk.self
      have hle := h.disk.le.1
      have hfd : f ≠ d := hself.ne_ hse (by decide)
      rcases ho with ⟨hg, rfl⟩ | ⟨k', b', hk', hb', hg, rfl⟩
      · have e1 : frB D.sure.length false n kind none = ([], 3) := by unfold frB; rw [hno]; rfl
        rw [e1]
        rw [hg] at hr
        have hop := fun W hT => open_zero n (by omega) W hT
        unfold OpenEnd at hop
        unfold str at hr
        generalize zeroL = zl at *
        have HOP := Lib.hid hop
        clear e1 e2 hat hop hg
        go_enter Tryz.func120, Tryz.ntmps120
        go_wp2_with fail
        refine Calls.mono hpg ?_
        rintro e w1 ⟨rfl, rfl⟩
        go_wp2_with fail
        refine Calls.mono hr ?_
        rintro e w2 ⟨rfl, hD2, hg2⟩
        have hbw2 := hg2.low hB (fun k hk => by subst hk; exact hle)
        have hF2 : FDt w2 B f d k { D with reads := D.reads + 1 } s m pv Dm := ⟨hfle, hg2.blk hself hfd, hD2⟩
        go_wp2_with fail
        refine Calls.mono (HOP.out _ (hT.below hbw2 hB0)) ?_
        rintro e w3 ⟨rfl, hb3⟩
        go_wp2
        go_ret2
        exact ⟨rfl, hF2.keep hb3, hg2.then_ hb3⟩
      · rw [hg] at hr
        have hop := fun W hT => open_page n k' b' (by omega) hk' hb' W hT
        rw [Int.toNat_natCast] at hr
        unfold OpenEnd at hop
        unfold str at hr
        have hkk : ((k' : Int) != (kind : Int)) = !decide (k' = kind) := by
          by_cases e : k' = kind
          · subst e; simp
          · simp [e]; omega
        by_cases hk2 : k' = kind
        · have e1 : frB D.sure.length false n kind (some (k', b')) = (b', 0) := by unfold frB; rw [hno, if_neg (by simp), if_neg (by simp)]; exact if_pos hk2
          rw [e1]
          generalize Pg.page n k' b' = zl at *
          have HOP := Lib.hid hop
          have hq : ((k' : Int) != (kind : Int)) = false := by rw [hkk]; simp [hk2]
          clear e1 e2 hat hop hg hkk hk2
          go_enter Tryz.func120, Tryz.ntmps120
          go_wp2_with fail
          refine Calls.mono hpg ?_
          rintro e w1 ⟨rfl, rfl⟩
          go_wp2_with fail
          refine Calls.mono hr ?_
          rintro e w2 ⟨rfl, hD2, hg2⟩
          have hbw2 := hg2.low hB (fun k hk => by subst hk; exact hle)
          have hF2 : FDt w2 B f d k { D with reads := D.reads + 1 } s m pv Dm := ⟨hfle, hg2.blk hself hfd, hD2⟩
          go_wp2_with fail
          refine Calls.mono (HOP.out _ (hT.below hbw2 hB0)) ?_
          rintro e w3 ⟨rfl, hb3⟩
          go_wp2
          go_ret2
          exact ⟨rfl, hF2.keep hb3, hg2.then_ hb3⟩
        · have e1 : frB D.sure.length false n kind (some (k', b')) = ([], 3) := by unfold frB; rw [hno, if_neg (by simp), if_neg (by simp)]; exact if_neg hk2
          rw [e1]
          generalize Pg.page n k' b' = zl at *
          have HOP := Lib.hid hop
          have hq : ((k' : Int) != (kind : Int)) = true := by rw [hkk]; simp [hk2]
          clear e1 e2 hat hop hg hkk hk2
          go_enter Tryz.func120, Tryz.ntmps120
          go_wp2_with fail
          refine Calls.mono hpg ?_
          rintro e w1 ⟨rfl, rfl⟩
          go_wp2_with fail
          refine Calls.mono hr ?_
          rintro e w2 ⟨rfl, hD2, hg2⟩
          have hbw2 := hg2.low hB (fun k hk => by subst hk; exact hle)
          have hF2 : FDt w2 B f d k { D with reads := D.reads + 1 } s m pv Dm := ⟨hfle, hg2.blk hself hfd, hD2⟩
          go_wp2_with fail
          refine Calls.mono (HOP.out _ (hT.below hbw2 hB0)) ?_
          rintro e w3 ⟨rfl, hb3⟩
          go_wp2
          go_ret2
          exact ⟨rfl, hF2.keep hb3, hg2.then_ hb3⟩
set_option maxHeartbeats 800000 in
theorem tget_D {B f d kk : Nat} {Dk : Dk} {ds dm : Nat} {dpv : Value} {dDm : DataW Value} (t m n k : Nat) (free : List Run) (pages : Int) (D : DataW Value) (id : Int) (kind : Nat) (hid : (Lit.int .i64 id).wf = true) (hh : Maps.has D (.int .i64 id) = false) (h2i : 2 <= id) (hip : id < pages) (hno : Rp.has free id = false) (hl : free.length <= 80000) (w : World) (h : Txn w t m f n free pages k D)
    (hF : FDt w B f d kk Dk ds dm dpv dDm) (hFi : Fine Dk) (hT : HT w) (hB0 : 0 < B) (hB : B <= w.heap.size) (o : Option (Nat × Bs)) (ho : noPage Dk.sure.length id = false -> Dk.down = false -> PageIs Dk id o) :
    Calls Tryz.prog 79 #[.pointer (some ⟨t, 0, none⟩), .int .i64 id, .int .u8 kind] w (FDEnd B f d kk ds dm dpv dDm (frB Dk.sure.length Dk.down id kind o) (Dk.readD id) w) := by
  have hrd := fun W (h1 : FDt W B f d kk Dk ds dm dpv dDm) (h2 : HT W) (h3 : B <= W.heap.size) => fread_D h1 hFi h2 hB0 h3 id kind o ho
  have hT' := h
  obtain ⟨_, ⟨v, h2, h3⟩, h4⟩ := h
  obtain ⟨A, c, rfl⟩ := h3.form
  have hlt := h2.lt
  have hc := h2.cell 3
  obtain ⟨u, ps, hrun, hu⟩ := h4.look_ok keyedI Tryz.underlying122 (Tryz.zeroValue130 w) (heldR_mk _ _ _) (keyI hid)
  rw [hh] at hrun
  obtain ⟨b, q', s', rfl, hz⟩ := heldR_inv hu
  unfold content at hrun
  have hb0 : Below w.heap.size w (w.alloc (.cells #[.bool b, .int .u8 q', .string s'] 130)) := (Below.refl _ w).alloc (Nat.le_refl _) _
  have hc0 := h2.cell 0
  have hc1 := h2.cell 1
  have hc2 := h2.cell 2
  have hhas := fun W (h : RS W W.heap.size A free) => has_any A c free id W h (by omega)
  rw [hno] at hhas
  have hq1 : decide (id < 2) = false := decide_eq_false (by omega)
  have hq2 : decide (pages <= id) = false := decide_eq_false (by omega)
  have hrs := h3.rs
  unfold FDEnd str at *
  generalize frB Dk.sure.length Dk.down id kind o = r at *
  generalize Dk.readD id = D2 at *
  have HHAS := Lib.hid hhas
  have HRD := Lib.hid hrd
  clear hhas hrd ho hu hz hno hT' h3 h4
  go_enter Tryz.func79, Tryz.ntmps79
  go_wp2_with fail
  refine Calls.mono (HHAS.out _ ((hrs.below hb0).more hb0.size)) ?_
  rintro e w1 ⟨rfl, hb1⟩
  have hb01 := hb0.trans (hb1.mono hb0.size)
  have h2' := h2.below hb01 hlt
  have hlt' := h2'.lt
  have hc0' := h2'.cell 0
  go_wp2_with fail
  refine Calls.mono (HRD.out _ (hF.keep hb01) (hT.below (hb01.mono hB) hB0) (Nat.le_trans hB hb01.size)) ?_
  rintro e w2 ⟨rfl, g1, g2⟩
  have hend : FDt w2 B f d kk D2 ds dm dpv dDm /\ Fr (fun g => g = d) w w2 := ⟨g1, (Fr.of_below hb01).trans g2⟩
  have HEND := Lib.hid hend
  clear hend g1 g2
  go_wp2
  go_ret2
  exact ⟨rfl, HEND.out⟩
end Go.Proofs.YtpfplojkiloldaaGreatDoor
namespace Go.Proofs.YtpfplojkiloldaaGreatDoor
open Go.RowKit Go.Shelf Go.Maps
def flQ (D : Dk) (q : Int -> Nat) (bd : Int -> Bs) (ss : List Int) : Dk := ss.foldl (fun D id => D.fput id (q id) (bd id)) D
theorem flQ_succ (D : Dk) (q : Int -> Nat) (bd : Int -> Bs) (ss : List Int) (j : Nat) (hj : j < ss.length) : flQ D q bd (ss.take (j + 1)) = (flQ D q bd (ss.take j)).fput ss[j] (q ss[j]) (bd ss[j]) := by
  unfold flQ
  rw [List.take_succ_eq_append_getElem hj, List.foldl_append]
  rfl
theorem flQ_len (q : Int -> Nat) (bd : Int -> Bs) (ss : List Int) : ∀ D : Dk, (flQ D q bd ss).sure.length = D.sure.length := by
  induction ss with
  | nil => intro D; rfl
  | cons a r ih => intro D; show (flQ (D.fput a (q a) (bd a)) q bd r).sure.length = _; rw [ih, fput_len]
def FqEnd (B f d s m : Nat) (D' : Dk) (w : World) (e : Ending) (w' : World) : Prop := e = .returned (.int .i64 0) /\ FDt w' B f d 0 D' s m (.slice none 0 0) (.map []) /\ Below B w w' /\ (∀ (g : Nat) (t : TypeId) (cs : Array Value), Blk w g t cs -> t ≠ 110 -> t ≠ 172 -> g ≠ s -> Blk w' g t cs) /\ (∀ g es c, g ≠ m -> w.heap[g]? = some (.map es c) -> w'.heap[g]? = some (.map es c))
set_option maxHeartbeats 1000000 in
theorem tflush_q {w : World} {B f d kf t m s m0 n k N : Nat} {Dd : Dk} {free : List Run} {pages : Int} {D : DataW Value} (q : Int -> Nat) (hq : ∀ x, q x < 256) (bd : Int -> Bs) (h : Txn w t m f n free pages k D) (hF : FAt w B f d kf Dd) (hn : Dd.sure.length = n)
    (hc0 : w.cell? ⟨d, 0, none⟩ = some (.slice (some ⟨s, 0, none⟩) n n)) (hc1 : w.cell? ⟨d, 1, none⟩ = some (.map (some m0))) (hmm : m ≠ m0)
    (hL : Lim Dd N) (hN : N + 1000 < 1000000) (hk : k <= 1000) (hkf : kf + 1000 < maxLen) (hT : HT w) (hB0 : 0 < B) (hB : B <= w.heap.size)
    (hD : ∀ x ∈ intKeys D, (Lit.int .i64 x).wf = true /\ ∀ z, D.atKey (.int .i64 x) z = .held (content true (q x : Nat) ⟨(bd x).toArray⟩))
    (hE : ∀ ss : List Int, ss.Perm (intKeys D) -> ∀ j (hj : j < ss.length), (flQ Dd q bd (ss.take j)).fputE ss[j] (bd ss[j]) = 0)
    (hS : ∀ ss : List Int, ss.Perm (intKeys D) -> WellD (flQ Dd q bd ss) /\ (flQ Dd q bd ss).down = false) :
    Calls Tryz.prog 38 #[.pointer (some ⟨t, 0, none⟩)] w fun e w' => ∃ ss : List Int, ss.Perm (intKeys D) /\ FqEnd B f d s m0 (flQ Dd q bd ss).synced w e w' := by
  have htk := taken_list t m f n k free pages D w (by omega) h
  have hsz := h.map.size_le
  have HD := Lib.hid hD
  have HE := Lib.hid hE
  have HS := Lib.hid hS
  clear hD hE hS
  go_enter Tryz.func38, Tryz.ntmps38
  go_wp2_with fail
  refine Calls.mono htk ?_
  rintro e w1 ⟨A, c, ss, rfl, hpm, hsl, hss, hb1⟩
  have hT1 := h.below hb1
  have hF1 := hF.keep hb1
  have hM1 := MapStep.below hb1 hF.disk.dlt
  have hbB := hb1.mono hB
  have hw1 := Nat.le_trans hB hb1.size
  have HPM := Lib.hid hpm
  clear hpm
  go_wp2
  go_loopw [10] (fun i wr => ∃ j : Nat, j <= ss.length /\ i = .int .i64 j /\ FAt wr B f d (kf + j) (flQ Dd q bd (ss.take j)) /\ Lim (flQ Dd q bd (ss.take j)) (N + j) /\ Txn wr t m f n free pages k D /\ Kept w1 wr /\ MapStep d w1 wr /\ Below B w1 wr) (fun i _ => ss.length - (intOf i).toNat)
  case atStart => exact ⟨0, by omega, rfl, hF1, hL, hT1, Kept.refl _, MapStep.refl _ _, Below.refl _ _⟩
  case round =>
    obtain ⟨j, hj, rfl, hFr, hLr, hTr, hKr, hMr, hBr⟩ := hrel
    by_cases hlt : j < ss.length
    · obtain ⟨b2, o2, rfl, hb2, g0⟩ := (hss.kept hKr (by decide) (by decide)).ls.int hlt
      obtain ⟨hwf, hat⟩ := HD.out _ (HPM.out.mem_iff.1 (List.getElem_mem hlt))
      have hfe := HE.out ss HPM.out j hlt
      have hsu := flQ_succ Dd q bd ss j hlt
      have HFL := Lib.hid (flQ_len q bd (ss.take (j + 1)) Dd)
      have hLf := hLr.fput ss[j] (q ss[j]) (bd ss[j])
      rw [<- hsu] at hLf
      generalize ss[j] = y at *
      have hqy := hq y
      generalize q y = qy at *
      obtain ⟨u, ps, hlook, hu⟩ := hTr.map.lookup keyedI Tryz.underlying122 (Tryz.zeroValue130 wr) (heldR_mk _ _ _) (keyI hwf)
      rw [hat] at hu
      obtain ⟨b', q', s', rfl, hz⟩ := heldR_inv hu
      have hz := (Prod.mk.inj hz).1
      injection hz with hz
      rw [<- hz] at hlook
      clear hu hz hat
      have hTr' := hTr
      obtain ⟨_, ⟨vf, h2, _⟩, _⟩ := hTr'
      have hlt2 := h2.lt
      have hc3 := h2.cell 3
      have hcf := h2.cell 0
      unfold content at hlook
      have hbA : Below wr.heap.size wr (wr.alloc (.cells #[.bool true, .int .u8 (qy : Int), .string ⟨(bd y).toArray⟩] 130)) := (Below.refl _ wr).alloc (Nat.le_refl _) _
      have hlink := Blk.new wr 130 #[.bool true, .int .u8 (qy : Int), .string ⟨(bd y).toArray⟩]
      have hwr := Nat.le_trans hw1 hBr.size
      have hfw := fun W (h1 : FAt W B f d (kf + j) (flQ Dd q bd (ss.take j))) (h2 : HT W) (h3 : B <= W.heap.size) => fwrite_any2 h1 (hLr.fine (by omega)) (by omega) h2 h3 y qy hqy (bd y)
      rw [hfe, <- hsu] at hfw
      unfold FWEnd2 str at hfw
      have HFW := Lib.hid hfw
      clear hfw hfe
      have hk0 := (h2.alloc (.cells #[.bool true, .int .u8 (qy : Int), .string ⟨(bd y).toArray⟩] 130)).cell 0
      have hk1 := hlink.cell 1
      have hk2 := hlink.cell 2
      have hFa := (hFr.keep hbA).keepF (w' := (wr.alloc (.cells #[.bool true, .int .u8 (qy : Int), .string ⟨(bd y).toArray⟩] 130)).drew) ⟨fun _ _ _ h _ => h, fun _ _ _ h => h⟩
      have hTa : HT (wr.alloc (.cells #[.bool true, .int .u8 (qy : Int), .string ⟨(bd y).toArray⟩] 130)).drew := (((hT.below hbB hB0).below hBr hB0).below (hbA.mono hwr).drew hB0)
      have hBa : B <= (wr.alloc (.cells #[.bool true, .int .u8 (qy : Int), .string ⟨(bd y).toArray⟩] 130)).drew.heap.size := by have := hbA.size; exact Nat.le_trans hwr this
      have hTxa := hTr.below hbA
      have hKa := hKr.trans (Kept.below hbA)
      have hMa := hMr.trans (MapStep.below hbA hFr.disk.dlt)
      have hBBa := hBr.trans (hbA.mono hwr)
      generalize flQ Dd q bd (ss.take j) = Dj at *
      have hcont := HFW.out _ hFa hTa hBa
      have hKd : Kept w1 (wr.alloc (.cells #[.bool true, .int .u8 (qy : Int), .string ⟨(bd y).toArray⟩] 130)).drew := hKa
      have hMd : MapStep d w1 (wr.alloc (.cells #[.bool true, .int .u8 (qy : Int), .string ⟨(bd y).toArray⟩] 130)).drew := ⟨hMa.cell, hMa.oth, hMa.row⟩
      have hBd := hBBa.drew
      have hTd : Txn (wr.alloc (.cells #[.bool true, .int .u8 (qy : Int), .string ⟨(bd y).toArray⟩] 130)).drew t m f n free pages k D := hTr.below hbA.drew
      have hom1 := hMd.1.trans (hM1.1.trans hc1)
      have hk0d : (wr.alloc (.cells #[.bool true, .int .u8 (qy : Int), .string ⟨(bd y).toArray⟩] 130)).drew.cell? ⟨t, 0, none⟩ = some (.pointer (some ⟨f, 0, none⟩)) := hk0
      have hk1d : (wr.alloc (.cells #[.bool true, .int .u8 (qy : Int), .string ⟨(bd y).toArray⟩] 130)).drew.cell? ⟨wr.heap.size, 1, none⟩ = some (.int .u8 (qy : Int)) := hk1
      have hk2d : (wr.alloc (.cells #[.bool true, .int .u8 (qy : Int), .string ⟨(bd y).toArray⟩] 130)).drew.cell? ⟨wr.heap.size, 2, none⟩ = some (.string ⟨(bd y).toArray⟩) := hk2
      go_wp2
      go_region_with (go_at_call 32; refine hcont.mono ?_; rintro e w2 ⟨rfl, gF, gB, gK, gM⟩)
      all_goals go_wp2
      all_goals go_roundw
      all_goals try (simp [intOf]; omega)
      all_goals exact ⟨j + 1, by omega, by go_num, gF, hLf, Txn.keepW (m0 := m0) hTd gK (gM.2 m0 hom1) hmm gF (by rw [HFL.out, hn]), hKd.trans gK, hMd.trans gM, hBd.trans gB⟩
    · obtain rfl : j = ss.length := by omega
      rw [List.take_of_length_le (Nat.le_refl _)] at hFr hLr
      obtain ⟨hW, hdn⟩ := HS.out ss HPM.out
      obtain ⟨s', m', pv, Dm, hDA⟩ := hFr.disk
      have hseq : s' = s := by
        have e1 := hDA.self.cell 0
        have e2 := hMr.row.trans (hM1.row.trans hc0)
        simp only [dkCells] at e1
        rw [e2] at e1
        have e3 : Value.slice (some ⟨s, 0, none⟩) n n = Value.slice (some ⟨s', 0, none⟩) (flQ Dd q bd ss).sure.length (flQ Dd q bd ss).sure.length := by simpa using e1
        injection e3 with e3
        injection e3 with e3
        injection e3 with e3
        exact e3.symm
      subst hseq
      have hmeq : m' = m0 := by
        have e1 := hDA.self.cell 1
        have e2 := hMr.1.trans (hM1.1.trans hc1)
        simp only [dkCells] at e1
        rw [e2] at e1
        simpa using e1.symm
      subst hmeq
      have hpl := hLr.pend
      have hsy := sync_any hDA hW hdn (by omega)
      have hcf := hFr.self.cell 0
      obtain ⟨_, ⟨vf, h2, _⟩, _⟩ := id hTr
      have hct := h2.cell 0
      have hfin : ∀ e w3, (e = .returned (.int .i64 0) /\ DAt w3 B d 0 (flQ Dd q bd ss).synced s' m' (.slice none 0 0) (.map []) /\ Touch3 d s' m' wr w3) -> FqEnd B f d s' m' (flQ Dd q bd ss).synced w e w3 := by
        rintro e w3 ⟨rfl, gD, gT⟩
        have t1 : ∀ {g : Nat} {ty : TypeId} {cs : Array Value}, Blk wr g ty cs -> ty ≠ 110 -> g ≠ s' -> Blk w3 g ty cs := fun {g ty cs} hb n1 n2 =>
          (gT.block g hb.lt (hb.ne_ hDA.self n1) n2 (fun e => hDA.mne hb e.symm)).trans hb
        refine ⟨rfl, ⟨hFr.le, t1 hFr.self (by decide) (hFr.self.ne_ hDA.sure (by decide)), gD⟩, (hbB.trans hBr).trans ⟨gT.os, gT.tape, gT.output, gT.size, fun g hg => ?_⟩, fun g ty cs hb n1 n2 n3 => t1 (hKr g ty cs (Kept.below hb1 g ty cs hb n1 n2) n1 n2) n1 n3, fun g es c hne hb => ?_⟩
        · obtain ⟨l1, l2, l3⟩ := hDA.le
          exact gT.block g (by have := hDA.self.lt; omega) (by omega) (by omega) (by omega)
        · have b1 : w1.heap[g]? = some (.map es c) := (hb1.block g (Array.getElem?_eq_some_iff.1 hb).1).trans hb
          have b2 := hMr.2 m' (hM1.1.trans hc1) g _ b1 rfl hne
          exact (gT.block g (Array.getElem?_eq_some_iff.1 b2).1 (fun e => by subst e; have := hDA.self; unfold Blk at this; rw [b2] at this; cases this) (fun e => by subst e; have := hDA.sure; unfold Blk at this; rw [b2] at this; cases this) hne).trans b2
      have HFIN := Lib.hid (fun e w3 h => (⟨ss, HPM.out, hfin e w3 h⟩ : ∃ ss : List Int, ss.Perm (intKeys D) /\ FqEnd B f d s' m' (flQ Dd q bd ss).synced w e w3))
      clear hfin
      go_wp2_with fail
      refine Calls.mono hsy ?_
      rintro e w3 hS3
      obtain rfl := hS3.1
      have hlast := HFIN.out _ _ hS3
      clear hS3
      go_wp2
      exact bodyPost_ret (v := .int .i64 0) (by simp [results, Tryz.f38, go_sem]) rfl hlast
end Go.Proofs.YtpfplojkiloldaaGreatDoor
namespace Go.Proofs.YtpfplojkiloldaaGreatDoor
open Go.RowKit Go.Shelf
end Go.Proofs.YtpfplojkiloldaaGreatDoor
namespace Go.Proofs.YtpfplojkiloldaaGreatDoor
open Go.RowKit Go.Shelf
section
variable {F : Fence} {n : Nat} {P : Program} {ops : Array Oper} {Q : Exit -> Act -> World -> Prop} {md : Region.Mode}
theorem ready_mem {L : Array Bool} {i : Nat} (h : i ∈ Region.ready md ops L) : i < ops.size /\ L.getD i true = false /\ ∀ o, ops[i]? = some o -> ∀ e ∈ o.after.toList, Region.binds md e = true -> L.getD e.on false = true := by
  unfold Region.ready at h
  rw [List.mem_filter] at h
  obtain ⟨h1, h2⟩ := h
  rw [Bool.and_eq_true] at h2
  refine ⟨List.mem_range.1 h1, by simpa using h2.1, fun o ho e he hb => ?_⟩
  have h3 := h2.2
  rw [ho] at h3
  simp only [Option.map_some, Option.getD_some] at h3
  rw [Array.all_eq_true'] at h3
  have h4 := h3 e (Array.mem_toList_iff.1 he)
  rw [hb] at h4
  simpa using h4
theorem ready_all {L : Array Bool} (h : Region.ready md ops L = []) (hs : L.size = ops.size) (hlow : ((List.range ops.size).all fun i => ((ops[i]?).map fun o => o.after.toList.all fun e => !Region.binds md e || decide (e.on < i)).getD true) = true) : ∀ i, i < ops.size -> L.getD i false = true := by
  intro i
  induction i using Nat.strongRecOn with
  | _ i ih =>
    intro hi
    cases hb : L.getD i false with
    | true => rfl
    | false =>
      have hL : i < L.size := by omega
      have hb' : L[i] = false := by simpa [Array.getD, hL] using hb
      have hmem : i ∈ Region.ready md ops L := by
        unfold Region.ready
        rw [List.mem_filter]
        refine ⟨List.mem_range.2 hi, ?_⟩
        rw [Bool.and_eq_true]
        refine ⟨by simp [Array.getD, hL, hb'], ?_⟩
        have hl := List.all_eq_true.1 hlow i (List.mem_range.2 hi)
        rw [Array.getElem?_eq_getElem hi] at hl ⊢
        simp only [Option.map_some, Option.getD_some] at hl ⊢
        rw [List.all_eq_true] at hl
        rw [Array.all_eq_true']
        intro e he
        have h1 := hl e (Array.mem_toList_iff.2 he)
        rw [Bool.or_eq_true] at h1 ⊢
        rcases h1 with h1 | h1
        · exact .inl h1
        · have h1 := of_decide_eq_true h1
          exact .inr (ih e.on h1 (by omega))
      rw [h] at hmem
      cases hmem
end
theorem set_at {L : Array Bool} {i : Nat} (h : i < L.size) : (L.setIfInBounds i true).getD i false = true := by simp [Array.getD, h]
theorem set_ne {L : Array Bool} {i j : Nat} (h : i ≠ j) : (L.setIfInBounds i true).getD j false = L.getD j false := by
  simp [Array.getD]
  split <;> simp_all
end Go.Proofs.YtpfplojkiloldaaGreatDoor
namespace Go.Proofs.YtpfplojkiloldaaGreatDoor
open Go.RowKit Go.Shelf
structure Is (base : Nat) where
  own : Option Nat
  p : Value -> World -> Prop
  up : ∀ v W W' S, p v W -> Fr S W W' -> (∀ k, S k -> k < base /\ own ≠ some k) -> p v W'
def Is.any (base : Nat) : Is base := ⟨none, fun _ _ => True, fun _ _ _ _ _ _ _ => trivial⟩
def Is.eq (base : Nat) (v : Value) : Is base := ⟨none, fun x _ => x = v, fun _ _ _ _ h _ _ => h⟩
def Is.blk (base : Nat) (ty : TypeId) (n : Nat) (cs : Array Value) : Is base := ⟨none, fun v W => ∃ b, base <= b /\ v = .slice (some ⟨b, 0, none⟩) n n /\ Blk W b ty cs, fun _ _ _ _ ⟨b, h0, h1, h2⟩ hf hS => ⟨b, h0, h1, hf.blk h2 (fun a => by have := hS b a; omega)⟩⟩
def Is.row (base : Nat) {α : Type} (E : Enc α) (ty : TypeId) (l : List α) : Is base := ⟨none, fun v W => LO E ty W base v l /\ ∃ A c, v = .slice A l.length c, fun _ _ _ _ h hf hS => ⟨LO.fr' h.1 hf (fun k a => (hS k a).1), h.2⟩⟩
def Is.node (base : Nat) (n : Nd.Node) : Is base := ⟨none, fun v W => NF base W v n, fun _ _ _ _ h hf hS => h.fr hf (fun k a => (hS k a).1)⟩
def Is.put (base g : Nat) (n : Nd.Node) : Is base := ⟨some g, fun _ W => ∃ cs, NF base W (.agg cs) n /\ Blk W g 58 cs, fun _ _ _ _ ⟨cs, h1, h2⟩ hf hS => ⟨cs, h1.fr hf (fun k a => (hS k a).1), hf.blk h2 (fun a => (hS g a).2 rfl)⟩⟩
def Does (o : Oper) (a : Act) (W : World) (R : Value -> World -> Prop) : Prop :=
  (∃ v w', (execOp a.eval o).run Tryz.prog W = .ok (.value v) w' /\ R v w') \/ (∃ w', (execOp a.eval o).run Tryz.prog W = .ok .skip w' /\ R undef w') \/ (∃ f args, (execOp a.eval o).run Tryz.prog W = .ok (.enter f args) W /\ Calls Tryz.prog f args W fun e w' => ∃ v, e = .returned v /\ R v w')
theorem Does.wp {o : Oper} {a : Act} {W : World} {R : Value -> World -> Prop} {K : Act -> World -> Prop} {Q : Exit -> Act -> World -> Prop} (h : Does o a W R) (hK : ∀ v w', R v w' -> K (a.put o.dst v) w') : o.wp Tryz.prog a W K Q := by
  unfold Oper.wp
  rcases h with ⟨v, w', hr, h⟩ | ⟨w', hr, h⟩ | ⟨f, args, hr, h⟩
  · rw [hr, Oper.upon_value]; exact hK v w' h
  · rw [hr, Oper.upon_skip]; exact hK _ w' h
  · rw [hr, Oper.upon_enter]
    refine Calls.mono h ?_
    rintro e w' ⟨v, rfl, h⟩
    exact hK v w' h
def depOn (ops : Array Oper) (i j : Nat) : Bool := ((ops[i]?).map fun o => o.after.toList.any fun e => Region.binds .any e && e.on == j).getD false
abbrev isAt {base : Nat} (Vs : List (Is base)) (i : Nat) : Is base := Vs.getD i (Is.any base)
def OwnS {base : Nat} (Vs : List (Is base)) (k : Nat) : Prop := ∃ i, (isAt Vs i).own = some k
theorem ownS_mem {base : Nat} {Vs : List (Is base)} {k : Nat} (h : OwnS Vs k) : k ∈ Vs.filterMap (·.own) := by
  obtain ⟨i, h⟩ := h
  rw [List.mem_filterMap]
  unfold isAt at h
  rw [List.getD_eq_getElem?_getD] at h
  cases hg : Vs[i]? with
  | none => rw [hg] at h; simp [Is.any] at h
  | some x => rw [hg] at h; exact ⟨x, List.mem_of_getElem? hg, h⟩
theorem own_inj {base : Nat} : ∀ {Vs : List (Is base)}, (Vs.filterMap (·.own)).Nodup -> ∀ {i j k}, (isAt Vs i).own = some k -> (isAt Vs j).own = some k -> i = j
  | [], _, i, j, k, h, _ => by simp [isAt, Is.any] at h
  | V :: Vs, hn, i, j, k, h1, h2 => by
    have hmem : ∀ {i : Nat}, (isAt Vs i).own = some k -> k ∈ Vs.filterMap (·.own) := fun {i} h => by
      rw [List.mem_filterMap]
      unfold isAt at h
      rw [List.getD_eq_getElem?_getD] at h
      cases hg : Vs[i]? with
      | none => rw [hg] at h; simp [Is.any] at h
      | some x => rw [hg] at h; exact ⟨x, List.mem_of_getElem? hg, h⟩
    cases i with
    | zero =>
      cases j with
      | zero => rfl
      | succ j =>
        have h1' : V.own = some k := h1
        have h2' : (isAt Vs j).own = some k := h2
        rw [List.filterMap_cons_some h1', List.nodup_cons] at hn
        exact absurd (hmem h2') hn.1
    | succ i =>
      have h1' : (isAt Vs i).own = some k := h1
      cases j with
      | zero =>
        have h2' : V.own = some k := h2
        rw [List.filterMap_cons_some h2', List.nodup_cons] at hn
        exact absurd (hmem h1') hn.1
      | succ j =>
        have h2' : (isAt Vs j).own = some k := h2
        have hn' : (Vs.filterMap (·.own)).Nodup := by
          cases hV : V.own with
          | none => rwa [List.filterMap_cons_none hV] at hn
          | some x => rw [List.filterMap_cons_some hV, List.nodup_cons] at hn; exact hn.2
        rw [own_inj hn' h1' h2']
structure FlowInv {base : Nat} (mk : (Nat -> Value) -> Act) (Vs : List (Is base)) (ops : Array Oper) (w : World) (L : Array Bool) (a : Act) (W : World) : Prop where
  sz : L.size = ops.size
  fr : Fr (OwnS Vs) w W
  old : ∀ i k, (isAt Vs i).own = some k -> L.getD i false = false -> W.heap[k]? = w.heap[k]?
  closed : ∀ j i, L.getD j false = true -> depOn ops j i = true -> L.getD i false = true
  act : ∃ u, a = mk u /\ ∀ i, i < ops.size -> L.getD i false = true -> (isAt Vs i).p (u i) W
abbrev Step1 {base : Nat} (mk : (Nat -> Value) -> Act) (Vs : List (Is base)) (i : Nat) (o : Oper) (u : Nat -> Value) (W : World) : Prop :=
  Does o (mk u) W (fun v W' => (mk u).put o.dst v = mk (fun j => if j = i then v else u j) /\ (isAt Vs i).p v W' /\ Fr (fun k => (isAt Vs i).own = some k) W W')
section
variable {base : Nat} {Q : Exit -> Act -> World -> Prop} {ops : Array Oper} {w : World}
theorem wpAny_flow {md : Region.Mode} (mk : (Nat -> Value) -> Act) (Vs : List (Is base)) (hmd : md = .any)
    (hlow : ((List.range ops.size).all fun i => ((ops[i]?).map fun o => o.after.toList.all fun e => !Region.binds .any e || decide (e.on < i)).getD true) = true)
    (hgd : ops.toList.all (fun o => o.guard.isNone) = true) (hbw : base <= w.heap.size) (hown : ∀ k, OwnS Vs k -> k < base) (hnd : (Vs.filterMap (·.own)).Nodup)
    (hstep : ∀ i o, ops[i]? = some o -> ∀ u W, Fr (OwnS Vs) w W -> (∀ j k, (isAt Vs j).own = some k -> (j = i \/ depOn ops j i = true) -> W.heap[k]? = w.heap[k]?) -> (∀ j, depOn ops i j = true -> (isAt Vs j).p (u j) W) -> Step1 mk Vs i o u W)
    (hend : ∀ u W, Fr (OwnS Vs) w W -> (∀ i, i < ops.size -> (isAt Vs i).p (u i) W) -> Q .normal (mk u) W) :
    ∀ fuel L a W, FlowInv mk Vs ops w L a W -> L.toList.count false <= fuel -> wpAny Tryz.prog md ops Q fuel L a W := by
  subst hmd
  have hdone : ∀ L a W, FlowInv mk Vs ops w L a W -> Region.ready .any ops L = [] -> Q .normal a W := by
    rintro L a W ⟨hs, hb, _, _, u, rfl, hu⟩ hr
    have hall := ready_all hr hs hlow
    exact hend u W hb (fun i hi => hu i hi (hall i hi))
  intro fuel
  induction fuel with
  | zero =>
    intro L a W hI hc
    have hr : Region.ready .any ops L = [] := by
      cases hr : Region.ready .any ops L with
      | nil => rfl
      | cons i r =>
        have hm := ready_mem (md := .any) (ops := ops) (L := L) (i := i) (by rw [hr]; exact List.mem_cons_self ..)
        have hL : i < L.size := by have := hI.sz; omega
        have h2 := hm.2.1
        have h3 : L[i] = false := by simpa [Array.getD, hL] using h2
        have h4 : L.toList.count false = 0 := by omega
        rw [List.count_eq_zero] at h4
        exact absurd (by rw [<- h3]; exact Array.mem_toList_iff.2 (Array.getElem_mem hL)) h4
    exact ⟨hr, hdone L a W hI hr⟩
  | succ fuel ih =>
    intro L a W hI hc
    refine ⟨hdone L a W hI, fun i hi => ?_⟩
    have hm := ready_mem hi
    have hL : i < L.size := by have := hI.sz; omega
    have h3 : L[i] = false := by simpa [Array.getD, hL] using hm.2.1
    have hcnt : (L.setIfInBounds i true).toList.count false <= fuel := by
      have h5 : (L.setIfInBounds i true).toList = L.toList.set i true := by simp
      rw [h5, List.count_set (by simpa using hL)]
      have h6 : L.toList[i]'(by simpa using hL) = false := by simpa using h3
      rw [h6]
      have h7 : 0 < L.toList.count false := List.count_pos_iff.2 (by rw [<- h3]; exact Array.mem_toList_iff.2 (Array.getElem_mem hL))
      simp
      simp at hc h7
      omega
    obtain ⟨hs, hb, hol, hcl, u, rfl, hu⟩ := hI
    obtain ⟨o, ho⟩ : ∃ o, ops[i]? = some o := ⟨_, Array.getElem?_eq_getElem hm.1⟩
    have hg : o.guard = none := by
      have := List.all_eq_true.1 hgd o (Array.mem_toList_iff.2 (Array.mem_of_getElem? ho))
      simpa using this
    have hdep : ∀ j, depOn ops i j = true -> (isAt Vs j).p (u j) W := by
      intro j hj
      unfold depOn at hj
      rw [ho] at hj
      simp only [Option.map_some, Option.getD_some, List.any_eq_true, Bool.and_eq_true, beq_iff_eq] at hj
      obtain ⟨e, he, hbd, rfl⟩ := hj
      have h1 := hm.2.2 o ho e he hbd
      refine hu e.on ?_ h1
      have h2 : e.on < L.size := by
        by_cases h : e.on < L.size
        · exact h
        · simp [Array.getD, h] at h1
      omega
    have hd := hstep i o ho u W hb (fun j k hk hj => hol j k hk (by
      rcases hj with rfl | hj
      · simpa [Array.getD, hL] using h3
      · cases hl : L.getD j false with
        | false => rfl
        | true =>
          have := hcl j i hl hj
          simp [Array.getD, hL, h3] at this)) hdep
    unfold wpOp
    rw [ho]
    simp only
    rw [if_pos (by simp [Region.wanted, hg])]
    refine .inl (hd.wp ?_)
    rintro v W' ⟨e1, hv, hb'⟩
    rw [e1]
    refine ih _ _ _ ⟨by simp [hs], hb.trans (hb'.more fun k hk => ⟨i, hk⟩), ?_, ?_, _, rfl, ?_⟩ hcnt
    · intro j k hk hlj
      have hji : j ≠ i := fun e => by subst e; rw [set_at hL] at hlj; cases hlj
      rw [set_ne (Ne.symm hji)] at hlj
      have h1 := hown k ⟨j, hk⟩
      have h2 := hb.size
      rw [hb'.block k (by omega) (fun hk2 => hji (own_inj hnd hk hk2))]
      exact hol j k hk hlj
    · intro j i' hj hd2
      by_cases hji : i = j
      · subst hji
        unfold depOn at hd2
        rw [ho] at hd2
        simp only [Option.map_some, Option.getD_some, List.any_eq_true, Bool.and_eq_true, beq_iff_eq] at hd2
        obtain ⟨e, he, hbd, rfl⟩ := hd2
        have h1 := hm.2.2 o ho e he hbd
        by_cases h2 : i = e.on
        · rw [<- h2]; exact set_at hL
        · rw [set_ne h2]
          by_cases h : e.on < L.size
          · simpa [Array.getD, h] using h1
          · simp [Array.getD, h] at h1
      · rw [set_ne hji] at hj
        have h1 := hcl j i' hj hd2
        by_cases h2 : i = i'
        · rw [<- h2]; exact set_at hL
        · rw [set_ne h2]; exact h1
    intro j hj hlj
    by_cases hji : j = i
    · subst hji; rw [if_pos rfl]; exact hv
    · rw [if_neg hji]
      rw [set_ne (Ne.symm hji)] at hlj
      exact (isAt Vs j).up _ _ _ _ (hu j hj hlj) hb' (fun k hk => ⟨hown k ⟨i, hk⟩, fun hk2 => hji (own_inj hnd hk2 hk)⟩)
theorem wp_region_flow2 {id : Nat} {a : Act} (mk : (Nat -> Value) -> Act) (Vs : List (Is base))
    (hm : Tryz.prog.follows .mixedOrders = true)
    (hlow : ((List.range ops.size).all fun i => ((ops[i]?).map fun o => o.after.toList.all fun e => !Region.binds .any e || decide (e.on < i)).getD true) = true)
    (hgd : ops.toList.all (fun o => o.guard.isNone) = true) (L : List Nat) (hL : Vs.filterMap (·.own) = L) (hbw : base <= w.heap.size) (hown : ∀ k ∈ L, k < base) (hnd : L.Nodup)
    (ha : ∃ u, a = mk u)
    (hstep : ∀ i o, ops[i]? = some o -> ∀ u W, Fr (fun k => k ∈ L) w W -> (∀ j k, (isAt Vs j).own = some k -> (j = i \/ depOn ops j i = true) -> W.heap[k]? = w.heap[k]?) -> (∀ j, depOn ops i j = true -> (isAt Vs j).p (u j) W) -> Step1 mk Vs i o u W)
    (hend : ∀ u W, Fr (fun k => k ∈ L) w W -> (∀ i, i < ops.size -> (isAt Vs i).p (u i) W) -> Q .normal (mk u) W) : (Code.region id ops true).wp Tryz.prog Q a w := by
  subst hL
  refine wp_region_any hm (wpAny_flow (w := w) mk Vs rfl hlow hgd hbw (fun k hk => hown k (ownS_mem hk)) hnd (fun i o ho u W hf => hstep i o ho u W (hf.more fun _ => ownS_mem)) (fun u W hf => hend u W (hf.more fun _ => ownS_mem)) _ _ _ _ ⟨by simp, .of_below (Below.refl w.heap.size w).drew, fun _ _ _ _ => rfl, ?_, ?_⟩ ?_)
  · intro j i hj
    by_cases h : j < ops.size <;> simp [Array.getD, h] at hj
  · obtain ⟨u, rfl⟩ := ha
    exact ⟨u, rfl, fun i hi h => by simp [Array.getD, hi] at h⟩
  · simp
theorem wp_region_flow {id : Nat} {a : Act} (mk : (Nat -> Value) -> Act) (Vs : List (Is base))
    (hm : Tryz.prog.follows .mixedOrders = true)
    (hlow : ((List.range ops.size).all fun i => ((ops[i]?).map fun o => o.after.toList.all fun e => !Region.binds .any e || decide (e.on < i)).getD true) = true)
    (hgd : ops.toList.all (fun o => o.guard.isNone) = true) (L : List Nat) (hL : Vs.filterMap (·.own) = L) (hbw : base <= w.heap.size) (hown : ∀ k ∈ L, k < base) (hnd : L.Nodup)
    (ha : ∃ u, a = mk u)
    (hstep : ∀ i o, ops[i]? = some o -> ∀ u W, Fr (fun k => k ∈ L) w W -> (∀ k, (isAt Vs i).own = some k -> W.heap[k]? = w.heap[k]?) -> (∀ j, depOn ops i j = true -> (isAt Vs j).p (u j) W) -> Step1 mk Vs i o u W)
    (hend : ∀ u W, Fr (fun k => k ∈ L) w W -> (∀ i, i < ops.size -> (isAt Vs i).p (u i) W) -> Q .normal (mk u) W) : (Code.region id ops true).wp Tryz.prog Q a w :=
  wp_region_flow2 mk Vs hm hlow hgd L hL hbw hown hnd ha (fun i o ho u W hf hold hdep => hstep i o ho u W hf (fun k hk => hold i k hk (.inl rfl)) hdep) hend
structure LastInv {base : Nat} (mk : (Nat -> Value) -> Act) (Vs : List (Is base)) (ops : Array Oper) (n : Nat) (w : World) (L : Array Bool) (a : Act) (W : World) : Prop where
  sz : L.size = ops.size
  fr : Fr (OwnS Vs) w W
  old : ∀ i k, (isAt Vs i).own = some k -> L.getD i false = false -> W.heap[k]? = w.heap[k]?
  lst : L.getD n false = false
  act : ∃ u, a = mk u /\ ∀ i, i < n -> L.getD i false = true -> (isAt Vs i).p (u i) W
theorem wpAny_last {md : Region.Mode} {n : Nat} (mk : (Nat -> Value) -> Act) (Vs : List (Is base)) (hmd : md = .any) (hn : ops.size = n + 1)
    (hlow : ((List.range ops.size).all fun i => ((ops[i]?).map fun o => o.after.toList.all fun e => !Region.binds .any e || decide (e.on < i)).getD true) = true)
    (hlast : ((List.range n).all fun i => depOn ops n i) = true)
    (hgd : ops.toList.all (fun o => o.guard.isNone) = true) (hbw : base <= w.heap.size) (hown : ∀ k, OwnS Vs k -> k < base) (hnd : (Vs.filterMap (·.own)).Nodup)
    (hstep : ∀ i o, i < n -> ops[i]? = some o -> ∀ u W, Fr (OwnS Vs) w W -> (∀ k, (isAt Vs i).own = some k -> W.heap[k]? = w.heap[k]?) -> (∀ j, depOn ops i j = true -> (isAt Vs j).p (u j) W) -> Step1 mk Vs i o u W)
    (hend : ∀ o, ops[n]? = some o -> ∀ u W, Fr (OwnS Vs) w W -> (∀ i, i < n -> (isAt Vs i).p (u i) W) -> Does o (mk u) W (fun v W' => Q .normal ((mk u).put o.dst v) W')) :
    ∀ fuel L a W, LastInv mk Vs ops n w L a W -> L.toList.count false <= fuel -> wpAny Tryz.prog md ops Q fuel L a W := by
  subst hmd
  have hnr : ∀ (L : Array Bool), L.size = ops.size -> Region.ready .any ops L = [] -> L.getD n false = true := fun L hs hr => ready_all hr hs hlow n (by omega)
  have hall : ∀ (L : Array Bool), (∀ i, i < ops.size -> L.getD i false = true) -> L.size = ops.size -> Region.ready .any ops L = [] := fun L hL hs => by
    cases hr : Region.ready .any ops L with
    | nil => rfl
    | cons i r =>
      have hm := ready_mem (md := .any) (ops := ops) (L := L) (i := i) (by rw [hr]; exact List.mem_cons_self ..)
      have h1 := hL i hm.1
      have h2 := hm.2.1
      have h3 : i < L.size := by have := hm.1; omega
      simp [Array.getD, h3] at h1 h2
      rw [h1] at h2; cases h2
  intro fuel
  induction fuel with
  | zero =>
    intro L a W hI hc
    exfalso
    have hL : n < L.size := by have := hI.sz; omega
    have h4 : L.toList.count false = 0 := by omega
    rw [List.count_eq_zero] at h4
    have h3 : L[n] = false := by simpa [Array.getD, hL] using hI.lst
    exact h4 (by rw [<- h3]; exact Array.mem_toList_iff.2 (Array.getElem_mem hL))
  | succ fuel ih =>
    intro L a W hI hc
    refine ⟨fun hr => (by have := hnr L hI.sz hr; rw [hI.lst] at this; cases this), fun i hi => ?_⟩
    have hm := ready_mem hi
    have hL : i < L.size := by have := hI.sz; omega
    have h3 : L[i] = false := by simpa [Array.getD, hL] using hm.2.1
    have hcnt : (L.setIfInBounds i true).toList.count false <= fuel := by
      have h5 : (L.setIfInBounds i true).toList = L.toList.set i true := by simp
      rw [h5, List.count_set (by simpa using hL)]
      have h6 : L.toList[i]'(by simpa using hL) = false := by simpa using h3
      rw [h6]
      have h7 : 0 < L.toList.count false := List.count_pos_iff.2 (by rw [<- h3]; exact Array.mem_toList_iff.2 (Array.getElem_mem hL))
      simp
      simp at hc h7
      omega
    obtain ⟨hs, hb, hol, hls, u, rfl, hu⟩ := hI
    obtain ⟨o, ho⟩ : ∃ o, ops[i]? = some o := ⟨_, Array.getElem?_eq_getElem hm.1⟩
    have hg : o.guard = none := by
      have := List.all_eq_true.1 hgd o (Array.mem_toList_iff.2 (Array.mem_of_getElem? ho))
      simpa using this
    have hdone : ∀ j, depOn ops i j = true -> L.getD j false = true := by
      intro j hj
      unfold depOn at hj
      rw [ho] at hj
      simp only [Option.map_some, Option.getD_some, List.any_eq_true, Bool.and_eq_true, beq_iff_eq] at hj
      obtain ⟨e, he, hbd, rfl⟩ := hj
      exact hm.2.2 o ho e he hbd
    have hlt : ∀ j, depOn ops i j = true -> j < i := by
      intro j hj
      unfold depOn at hj
      rw [ho] at hj
      simp only [Option.map_some, Option.getD_some, List.any_eq_true, Bool.and_eq_true, beq_iff_eq] at hj
      obtain ⟨e, he, hbd, rfl⟩ := hj
      have h1 := List.all_eq_true.1 hlow i (List.mem_range.2 hm.1)
      rw [ho] at h1
      simp only [Option.map_some, Option.getD_some, List.all_eq_true] at h1
      have h2 := h1 e he
      rw [hbd] at h2
      simpa using h2
    unfold wpOp
    rw [ho]
    simp only
    rw [if_pos (by simp [Region.wanted, hg])]
    by_cases hin : i = n
    · subst hin
      have hd := hend o ho u W hb (fun j hj => hu j hj (hdone j (List.all_eq_true.1 hlast j (List.mem_range.2 hj))))
      refine .inl (hd.wp ?_)
      intro v W' hQ
      have hallt : ∀ j, j < ops.size -> (L.setIfInBounds i true).getD j false = true := fun j hj => by
        by_cases h : i = j
        · subst h; exact set_at hL
        · rw [set_ne h]; exact hdone j (List.all_eq_true.1 hlast j (List.mem_range.2 (by omega)))
      have hr := hall (L.setIfInBounds i true) hallt (by simp [hs])
      cases fuel with
      | zero => exact ⟨hr, hQ⟩
      | succ fuel => exact ⟨fun _ => hQ, fun j hj => by rw [hr] at hj; cases hj⟩
    · have hi2 : i < n := by have := hm.1; omega
      have hd := hstep i o hi2 ho u W hb (fun k hk => hol i k hk (by simpa [Array.getD, hL] using h3)) (fun j hj => hu j (by have := hlt j hj; omega) (hdone j hj))
      refine .inl (hd.wp ?_)
      rintro v W' ⟨e1, hv, hb'⟩
      rw [e1]
      refine ih _ _ _ ⟨by simp [hs], hb.trans (hb'.more fun k hk => ⟨i, hk⟩), ?_, by rw [set_ne hin]; exact hls, _, rfl, ?_⟩ hcnt
      · intro j k hk hlj
        have hji : j ≠ i := fun e => by subst e; rw [set_at hL] at hlj; cases hlj
        rw [set_ne (Ne.symm hji)] at hlj
        have h1 := hown k ⟨j, hk⟩
        have h2 := hb.size
        rw [hb'.block k (by omega) (fun hk2 => hji (own_inj hnd hk hk2))]
        exact hol j k hk hlj
      · intro j hj hlj
        by_cases hji : j = i
        · subst hji; rw [if_pos rfl]; exact hv
        · rw [if_neg hji]
          rw [set_ne (Ne.symm hji)] at hlj
          exact (isAt Vs j).up _ _ _ _ (hu j hj hlj) hb' (fun k hk => ⟨hown k ⟨i, hk⟩, fun hk2 => hji (own_inj hnd hk2 hk)⟩)
theorem wp_region_last {id : Nat} {a : Act} (n : Nat) (mk : (Nat -> Value) -> Act) (Vs : List (Is base))
    (hm : Tryz.prog.follows .mixedOrders = true) (hn : ops.size = n + 1)
    (hlow : ((List.range ops.size).all fun i => ((ops[i]?).map fun o => o.after.toList.all fun e => !Region.binds .any e || decide (e.on < i)).getD true) = true)
    (hlast : ((List.range n).all fun i => depOn ops n i) = true)
    (hgd : ops.toList.all (fun o => o.guard.isNone) = true) (L : List Nat) (hL : Vs.filterMap (·.own) = L) (hbw : base <= w.heap.size) (hown : ∀ k ∈ L, k < base) (hnd : L.Nodup)
    (ha : ∃ u, a = mk u)
    (hstep : ∀ i o, i < n -> ops[i]? = some o -> ∀ u W, Fr (fun k => k ∈ L) w W -> (∀ k, (isAt Vs i).own = some k -> W.heap[k]? = w.heap[k]?) -> (∀ j, depOn ops i j = true -> (isAt Vs j).p (u j) W) -> Step1 mk Vs i o u W)
    (hend : ∀ o, ops[n]? = some o -> ∀ u W, Fr (fun k => k ∈ L) w W -> (∀ i, i < n -> (isAt Vs i).p (u i) W) -> Does o (mk u) W (fun v W' => Q .normal ((mk u).put o.dst v) W')) : (Code.region id ops true).wp Tryz.prog Q a w := by
  subst hL
  refine wp_region_any hm (wpAny_last (w := w) mk Vs rfl hn hlow hlast hgd hbw (fun k hk => hown k (ownS_mem hk)) hnd (fun i o hi ho u W hf => hstep i o hi ho u W (hf.more fun _ => ownS_mem)) (fun o ho u W hf => hend o ho u W (hf.more fun _ => ownS_mem)) _ _ _ _ ⟨by simp, .of_below (Below.refl w.heap.size w).drew, fun _ _ _ _ => rfl, by simp [Array.getD, hn], ?_⟩ ?_)
  · obtain ⟨u, rfl⟩ := ha
    exact ⟨u, rfl, fun i hi h => by have : i < ops.size := by omega
                                    simp [Array.getD, this] at h⟩
  · simp
end
end Go.Proofs.YtpfplojkiloldaaGreatDoor
