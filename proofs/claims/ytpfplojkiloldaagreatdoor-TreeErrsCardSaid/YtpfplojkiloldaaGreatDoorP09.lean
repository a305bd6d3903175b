/- The walk of disk.Write. Plain: the check of bytes. Plain: numbers as bytes, a chain page. The walks of package codec: numbers as bytes, a reader of bytes. The walks of codec's Reader. The walk of (*codec.Reader).Int. The walks of crc.Step, crc.Sum. Plain: what a page's bytes are. The walks of rootstockref01: Put, Int. The walk of chain.Body. -/
import Derived.RangeFuncOwn
import Derived.KernelRfl
import Derived.Laws.BitsAllLaws
import Derived.Laws.BitsLemmas
import Derived.Test.YtpfplojkiloldaaGreatDoorP00
import Derived.Test.YtpfplojkiloldaaGreatDoorP08
set_option maxRecDepth 100000
namespace Go.Proofs.YtpfplojkiloldaaGreatDoor
open Go.RowKit Go.Shelf
section
variable {w w2 : World} {B d k : Nat} {D : Dk} {s m : Nat} {pv v' : Value} {Dm : DataW Value}
theorem DAt.push_self (h : DAt w B d k D s m pv Dm) (hg : w.grownBy w2 pv.ownBlock) : Blk w2 d 110 (dkCells s m pv D) :=
  h.self.grown hg (fun e => own_blk_ne (h.pend.raw rfl rfl) h.self (by decide) e.symm)
theorem DAt.push (h : DAt w B d k D s m pv Dm) (hg : w.grownBy w2 pv.ownBlock) (i : Int) (t : Bs) (ho : w2.ownsRow B 172 2 v' (D.pend.length + 1) (penE.cells D.pend ++ [.int .i64 i, str t])) :
    DAt (w2.setCell ⟨d, 2, none⟩ v') B d k { D with pend := D.pend ++ [(i, t)] } s m v' Dm where
  le := h.le
  self := (h.push_self hg).set_ 2 v'
  sure := (h.sure.grown hg (fun e => own_blk_ne (h.pend.raw rfl rfl) h.sure (by decide) e.symm)).far (h.sure.ne_ h.self (by decide)) v'
  map := (h.map.kept hg (fun e => by
      obtain ⟨cs, hcs⟩ := own_obj (h.pend.raw rfl rfl) e.symm
      obtain ⟨es, clock, hb, -⟩ := h.map
      have := hb.symm.trans hcs
      cases this)).kept (only_setCell (p := ⟨d, 2, none⟩) (World.grownBy.refl w2 (some d)) (.inl rfl) v') (fun e => h.mne h.self (Option.some.inj e))
  now := h.now
  pend := (LO.snoc (E := penE) (x := (i, t)) rfl rfl rfl ho).set_ (h.push_self hg) (by decide)
theorem DAt.stored (h : DAt w B d k D s m pv Dm) (i : Int) (t : Bs) (hw : w2.ownsMap Tryz.prog 3 strR m (k + 1) (Dm.put (.int .i64 i) (.held (str t)))) (hg : w.grownBy w2 (some m)) :
    DAt w2 B d (k + 1) { D with now := fun j => if j = i then some t else D.now j } s m pv (Dm.put (.int .i64 i) (.held (str t))) where
  le := h.le
  self := h.self.grown hg (fun e => h.mne h.self (Option.some.inj e).symm)
  sure := h.sure.grown hg (fun e => h.mne h.sure (Option.some.inj e).symm)
  map := hw
  now := h.now.put (h.map.tidy dkeyedI).isMap i t
  pend := h.pend.keep hg (fun r e => by
    cases e
    obtain ⟨es, clock, hb, -⟩ := h.map
    exact ⟨_, hb, fun cs e => by cases e⟩)
end
def Kept (w w' : World) : Prop := ∀ (g : Nat) (t : TypeId) (cs : Array Value), Blk w g t cs -> t ≠ 110 -> t ≠ 172 -> Blk w' g t cs
theorem Kept.refl (w : World) : Kept w w := fun _ _ _ h _ _ => h
theorem Kept.trans {a b c : World} (h : Kept a b) (h2 : Kept b c) : Kept a c := fun g t cs hb h1 h3 => h2 g t cs (h g t cs hb h1 h3) h1 h3
theorem Kept.set_ {a w : World} (h : Kept a w) {d j : Nat} {cs : Array Value} (hd : Blk w d 110 cs) (u : Value) : Kept a (w.setCell ⟨d, j, none⟩ u) := fun g t cs' hb h1 h3 => by
  have h4 := h g t cs' hb h1 h3
  exact h4.far (p := ⟨d, j, none⟩) (h4.ne_ hd h1) u
theorem Kept.below {w w' : World} (h : Below w.heap.size w w') : Kept w w' := fun _ _ _ hb _ _ => hb.below h hb.lt
theorem LO.kept {α : Type} {E : Enc α} {ty : TypeId} {w w' : World} {base : Nat} {v : Value} {l : List α} (h : LO E ty w base v l) (hk : Kept w w') (h1 : ty ≠ 110) (h2 : ty ≠ 172) : LO E ty w' base v l := by
  rcases h with ⟨h3, h4 | ⟨g, cap, cur, hv, hb, hh, r⟩⟩
  · exact ⟨h3, .inl h4⟩
  · exact ⟨h3, .inr ⟨g, cap, cur, hv, hb, hk g ty _ hh h1 h2, r⟩⟩
def OthM (m : Nat) (w w' : World) : Prop := ∀ (k : Nat) (o : Obj), w.heap[k]? = some o -> o.isCells = false -> k ≠ m -> w'.heap[k]? = some o
theorem OthM.refl (m : Nat) (w : World) : OthM m w w := fun _ _ h _ _ => h
theorem OthM.trans {m : Nat} {a b c : World} (h : OthM m a b) (g : OthM m b c) : OthM m a c := fun k o hk h1 h2 => g k o (h k o hk h1 h2) h1 h2
theorem OthM.set_ {m : Nat} {a w : World} (h : OthM m a w) (p : Addr) (u : Value) : OthM m a (w.setCell p u) := fun k o hk h1 h2 => (KeepsOthers.setCell w p u).same k o (h k o hk h1 h2) h1
theorem OthM.grown {m : Nat} {w w' : World} {row : Option Nat} (hg : w.grownBy w' row) (hr : ∀ r, row = some r -> ∃ o, w.heap[r]? = some o /\ o.isCells = true) : OthM m w w' := fun k o hk h1 _ =>
  (hg.block k (Array.getElem?_eq_some_iff.1 hk).1 (fun e => by
    obtain ⟨o2, h2, h3⟩ := hr k e.symm
    rw [hk] at h2
    cases h2
    rw [h1] at h3
    cases h3)).trans hk
theorem OthM.turn {m : Nat} {w w' : World} (hg : w.grownBy w' (some m)) : OthM m w w' := fun k _ hk _ h2 => (hg.block k (Array.getElem?_eq_some_iff.1 hk).1 (fun e => h2 (Option.some.inj e))).trans hk
theorem OthM.below {m : Nat} {w w' : World} (hb : Below w.heap.size w w') : OthM m w w' := fun k _ hk _ _ => (hb.block k (Array.getElem?_eq_some_iff.1 hk).1).trans hk
def DkStep (B d k k' : Nat) (D D' : Dk) (w w' : World) : Prop := ∃ s m pv Dm pv' Dm', DAt w B d k D s m pv Dm /\ DAt w' B d k' D' s m pv' Dm' /\ OthM m w w'
def Dk.put (D : Dk) (i : Int) (t : Bs) : Dk := { D with writes := D.writes + 1, pend := D.pend ++ [(i, t)], now := fun j => if j = i then some t else D.now j }
def Dk.wrote (D : Dk) (i : Int) (t : Bs) : Dk := if D.left = 0 then { D.put i t with down := true, left := -1 } else if 0 < D.left then { D.put i t with left := D.left - 1 } else D.put i t
def Dk.wroteE (D : Dk) : Int := if D.left = 0 then 4 else 0
set_option maxHeartbeats 2000000 in
theorem write_ok2 {w : World} {B d k : Nat} {D : Dk} (h : DkAt w B d k D) (i : Int) (t : Bs) (hi : D.at_ i = 0) (ht : t.length = 256) (hk : k < maxLen) (hw : (Lit.int .i64 i).wf = true) (hr : 0 <= D.writes /\ D.writes < 4611686018427387904) (hl : D.left <= 9223372036854775807) (hp : D.pend.length <= 1000000) (hB : B <= w.heap.size) :
    Calls Tryz.prog 63 #[.pointer (some ⟨d, 0, none⟩), .int .i64 i, str t] w fun e w' => e = .returned (.int .i64 D.wroteE) /\ DkStep B d k (k + 1) D (D.wrote i t) w w' /\ Below B w w' /\ Kept w w' := by
  have hat := at_any h i
  rw [hi] at hat
  obtain ⟨s, m, pv, Dm, h⟩ := h
  have HH := Lib.hid h
  have h6 := h.self.cell 6
  have f6 := h.self.frozen 6
  simp only [dkCells] at h6
  have htk := tick_any d 6 D.writes w h6 f6 hr
  have h1 := h.turn 6 (.int .i64 (D.writes + 1)) { D with writes := D.writes + 1 } rfl rfl rfl rfl
  have hbw1 : Below B w (w.setCell ⟨d, 6, none⟩ (.int .i64 (D.writes + 1))) := below_of_grown (grown_set w d 6 _) hB h.le.1
  have hk1 : Kept w (w.setCell ⟨d, 6, none⟩ (.int .i64 (D.writes + 1))) := (Kept.refl w).set_ h.self _
  have ho1 : OthM m w (w.setCell ⟨d, 6, none⟩ (.int .i64 (D.writes + 1))) := (OthM.refl m w).set_ _ _
  generalize w.setCell ⟨d, 6, none⟩ (.int .i64 (D.writes + 1)) = w1 at *
  obtain ⟨A, c, rfl⟩ := h1.pend.form
  have g2 := h1.self.cell 2
  simp only [dkCells] at g2
  have hown := h1.pend.raw rfl (s := 2) rfl
  unfold str
  simp only at g2 hown
  have hB1 : B <= w1.heap.size := Nat.le_trans hB hbw1.size
  have hn1 : D.pend.length + 1 <= maxLen := by unfold maxLen; omega
  have hn2 : (D.pend.length + 1) * 24 <= 140737488355328 := by omega
  have hle := h.le.1
  have hlm := h.le.2.2
  have hfacts : ∀ A' c' w2, w2.ownsRow B 172 2 (.slice A' (D.pend.length + 1) c') (D.pend.length + 1) (penE.cells D.pend ++ [.int .i64 i, .string ⟨t.toArray⟩]) -> w1.grownBy w2 (Value.slice A D.pend.length c).ownBlock -> Below B w1 w2 ->
      w2.cell? ⟨d, 2, none⟩ = some (.slice A D.pend.length c) /\ w2.frozen? ⟨d, 2, none⟩ = false /\ (w2.setCell ⟨d, 2, none⟩ (.slice A' (D.pend.length + 1) c')).cell? ⟨d, 1, none⟩ = some (.map (some m)) /\
      ∃ w4, (Instr.mapUpdate 102 (.map (some m)) (.int .i64 i) (.string ⟨t.toArray⟩)).run Tryz.prog (w2.setCell ⟨d, 2, none⟩ (.slice A' (D.pend.length + 1) c')) = .ok () w4 /\
        DAt w4 B d (k + 1) (D.put i t) s m (.slice A' (D.pend.length + 1) c') (Dm.put (.int .i64 i) (.held (str t))) /\ Below B w w4 /\ w4.cell? ⟨d, 3, none⟩ = some (.int .i64 D.left) /\ w4.cell? ⟨d, 4, none⟩ = some (.bool D.down) /\ w4.frozen? ⟨d, 3, none⟩ = false /\ w4.frozen? ⟨d, 4, none⟩ = false /\ Kept w w4 /\ Hid (OthM m w w4) := by
    intro A' c' w2 hown' hgrow hbel
    have hb2 := h1.push_self hgrow
    have h3 := h1.push hgrow i t hown'
    have hbw3 : Below B w (w2.setCell ⟨d, 2, none⟩ (.slice A' (D.pend.length + 1) c')) := (hbw1.trans hbel).setCell (by exact hle) _
    obtain ⟨w4, hrun, hmap, hturn⟩ := h3.map.store dkeyedI Tryz.underlying102 hk (dkeyI hw) (strR_mk ⟨t.toArray⟩)
    have h4 := h3.stored i t hmap hturn.grown
    have hbw4 : Below B w w4 := hbw3.grown hturn.grown (Nat.le_trans hB hbw3.size) (fun r e => by cases e; exact hlm)
    have hka : Kept w1 w2 := fun g t cs hb e1 e2 => hb.grown hgrow (fun e => own_blk_ne hown hb (Ne.symm e2) e.symm)
    have hkb := (hk1.trans hka).set_ (j := 2) hb2 (.slice A' (D.pend.length + 1) c')
    have hkp : Kept w w4 := fun g t cs hb e1 e2 => (hkb g t cs hb e1 e2).grown hturn.grown (fun e => h3.mne (hkb g t cs hb e1 e2) (Option.some.inj e).symm)
    exact ⟨hb2.cell 2, hb2.frozen 2, h3.self.cell 1, w4, hrun, h4, hbw4, h4.self.cell 3, h4.self.cell 4, h4.self.frozen 3, h4.self.frozen 4, hkp, Lib.hid (((ho1.trans (OthM.grown hgrow (fun r e => by obtain ⟨cs, hcs⟩ := own_obj hown e; exact ⟨_, hcs, rfl⟩))).set_ _ _).trans (OthM.turn hturn.grown))⟩
  by_cases h0 : D.left = 0
  · have hwr : D.wrote i t = { D.put i t with down := true, left := -1 } := by unfold Dk.wrote; rw [if_pos h0]
    have hwe : D.wroteE = 4 := by unfold Dk.wroteE; rw [if_pos h0]
    have HW := Lib.hid hwr
    have HE := Lib.hid hwe
    have hq : (D.left == 0) = true := by simpa using h0
    clear hwr hwe h0
    go_enter Tryz.func63, Tryz.ntmps63
    go_wp2_with fail
    refine Calls.mono hat ?_
    rintro e w0 ⟨rfl, rfl⟩
    go_wp2_with fail
    refine Calls.mono htk ?_
    rintro e w0 ⟨v2, rfl, rfl⟩
    go_wp2_with (at_builtin; refine wpList_app1 rfl (.tmp 25) (.tmp 29) 103 rfl eiPen Tryz.underlying103 rfl (by decide) rfl hown rfl (by simp) rfl (by simp [Value.oneCell']) hn1 hn2 hB1 ?_; intro v' w2 hown' hgrow hbel _ _
                 obtain ⟨A', c', rfl⟩ := own_form hown'
                 obtain ⟨k2, m2, k31, w4, hrun, h4, hbw4, k43, k44, m43, m44, hkp, hoM⟩ := hfacts A' c' w2 hown' hgrow hbel)
    go_ret
    exact ⟨by rw [HE.out]; rfl, ⟨s, m, _, _, _, _, HH.out, by rw [HW.out]; exact (h4.turn 4 (.bool true) { D.put i t with down := true } rfl rfl rfl rfl).turn 3 (.int .i64 (-1)) _ rfl rfl rfl rfl, (hoM.out.set_ _ _).set_ _ _⟩, (hbw4.setCell hle _).setCell hle _, (hkp.set_ h4.self _).set_ (h4.turn 4 (.bool true) { D.put i t with down := true } rfl rfl rfl rfl).self _⟩
  have hwe : D.wroteE = 0 := by unfold Dk.wroteE; rw [if_neg h0]
  have HE := Lib.hid hwe
  have hq : (D.left == 0) = false := by simpa using h0
  clear hwe
  by_cases hp0 : 0 < D.left
  · have hwr : D.wrote i t = { D.put i t with left := D.left - 1 } := by unfold Dk.wrote; rw [if_neg h0, if_pos hp0]
    have HW := Lib.hid hwr
    have hq2 : decide (0 < D.left) = true := by simpa using hp0
    clear hwr
    go_enter Tryz.func63, Tryz.ntmps63
    go_wp2_with fail
    refine Calls.mono hat ?_
    rintro e w0 ⟨rfl, rfl⟩
    go_wp2_with fail
    refine Calls.mono htk ?_
    rintro e w0 ⟨v2, rfl, rfl⟩
    go_wp2_with (at_builtin; refine wpList_app1 rfl (.tmp 25) (.tmp 29) 103 rfl eiPen Tryz.underlying103 rfl (by decide) rfl hown rfl (by simp) rfl (by simp [Value.oneCell']) hn1 hn2 hB1 ?_; intro v' w2 hown' hgrow hbel _ _
                 obtain ⟨A', c', rfl⟩ := own_form hown'
                 obtain ⟨k2, m2, k31, w4, hrun, h4, hbw4, k43, k44, m43, m44, hkp, hoM⟩ := hfacts A' c' w2 hown' hgrow hbel)
    go_ret
    exact ⟨by rw [HE.out]; rfl, ⟨s, m, _, _, _, _, HH.out, by rw [HW.out]; exact h4.turn 3 (.int .i64 (D.left - 1)) _ rfl rfl rfl rfl, hoM.out.set_ _ _⟩, hbw4.setCell hle _, hkp.set_ h4.self _⟩
  · have hwr : D.wrote i t = D.put i t := by unfold Dk.wrote; rw [if_neg h0, if_neg hp0]
    have HW := Lib.hid hwr
    have hq2 : decide (0 < D.left) = false := by simpa using hp0
    clear hwr
    go_enter Tryz.func63, Tryz.ntmps63
    go_wp2_with fail
    refine Calls.mono hat ?_
    rintro e w0 ⟨rfl, rfl⟩
    go_wp2_with fail
    refine Calls.mono htk ?_
    rintro e w0 ⟨v2, rfl, rfl⟩
    go_wp2_with (at_builtin; refine wpList_app1 rfl (.tmp 25) (.tmp 29) 103 rfl eiPen Tryz.underlying103 rfl (by decide) rfl hown rfl (by simp) rfl (by simp [Value.oneCell']) hn1 hn2 hB1 ?_; intro v' w2 hown' hgrow hbel _ _
                 obtain ⟨A', c', rfl⟩ := own_form hown'
                 obtain ⟨k2, m2, k31, w4, hrun, h4, hbw4, k43, k44, m43, m44, hkp, hoM⟩ := hfacts A' c' w2 hown' hgrow hbel)
    go_ret
    exact ⟨by rw [HE.out]; rfl, ⟨s, m, _, _, _, _, HH.out, by rw [HW.out]; exact h4, hoM.out⟩, hbw4, hkp⟩
theorem write_bad {w : World} {B d k : Nat} {D : Dk} (h : DkAt w B d k D) (i : Int) (t : Bs) (hi : D.at_ i ≠ 0) :
    Calls Tryz.prog 63 #[.pointer (some ⟨d, 0, none⟩), .int .i64 i, str t] w fun e w' => e = .returned (.int .i64 (D.at_ i)) /\ w' = w := by
  have hat := at_any h i
  generalize D.at_ i = x at *
  have hx : (x != 0) = true := by simpa using hi
  unfold str
  clear h
  go_enter Tryz.func63, Tryz.ntmps63
  go_wp2_with fail
  refine Calls.mono hat ?_
  rintro e w1 ⟨rfl, rfl⟩
  go_wp2
  go_ret
  exact ⟨rfl, rfl⟩
end Go.Proofs.YtpfplojkiloldaaGreatDoor
namespace Cc
def hv : List Nat := [0, 498536548, 997073096, 651767980, 1994146192, 1802195444, 1303535960, 1342533948, 3988292384, 4027552580, 3604390888, 3412177804, 2607071920, 2262029012, 2685067896, 3183342108]
theorem hv_lt (i : Nat) : hv.getD i 0 < 4294967296 := by
  by_cases h : i < 16
  · have h2 : ∀ j : Fin 16, hv.getD j 0 < 4294967296 := by decide
    exact h2 ⟨i, h⟩
  · have : hv.length <= i := by show 16 <= i; omega
    rw [List.getD, List.getElem?_eq_none this]; decide
def half (n : Nat) : Nat := n / 16 ^^^ hv.getD (n % 16) 0
theorem half_lt {n : Nat} (h : n < 4294967296) : half n < 4294967296 := Nat.xor_lt_two_pow (n := 32) (by omega) (hv_lt _)
def step (c b : Nat) : Nat := half (half (c ^^^ b))
theorem xor_lt {c b : Nat} (hc : c < 4294967296) (hb : b < 256) : c ^^^ b < 4294967296 := Nat.xor_lt_two_pow (n := 32) hc (by omega)
theorem step_lt {c b : Nat} (hc : c < 4294967296) (hb : b < 256) : step c b < 4294967296 := half_lt (half_lt (xor_lt hc hb))
def run (c : Nat) (l : List UInt8) : Nat := l.foldl (fun c b => step c b.toNat) c
theorem run_lt (l : List UInt8) : ∀ {c : Nat}, c < 4294967296 -> run c l < 4294967296 := by
  induction l with
  | nil => intro c h; exact h
  | cons b l ih => intro c h; exact ih (step_lt h b.toNat_lt)
theorem run_append (c : Nat) (a b : List UInt8) : run c (a ++ b) = run (run c a) b := by unfold run; rw [List.foldl_append]
def sum (l : List UInt8) : Nat := run 4294967295 l ^^^ 4294967295
theorem sum_lt (l : List UInt8) : sum l < 4294967296 := Nat.xor_lt_two_pow (n := 32) (run_lt l (by decide)) (by decide)
end Cc
namespace Cp
def be : Nat -> Nat -> List UInt8
  | 0, _ => []
  | k + 1, n => be k (n / 256) ++ [UInt8.ofNat (n % 256)]
theorem be_length (k n : Nat) : (be k n).length = k := by
  induction k generalizing n with
  | zero => rfl
  | succ k ih => simp [be, ih]
def num (l : List UInt8) : Nat := l.foldl (fun n c => n * 256 + c.toNat) 0
theorem num_from (l : List UInt8) (n : Nat) : l.foldl (fun n c => n * 256 + c.toNat) n = n * 256 ^ l.length + num l := by
  induction l generalizing n with
  | nil => simp [num]
  | cons c l ih =>
    unfold num
    rw [List.foldl_cons, List.foldl_cons, ih, ih (0 * 256 + c.toNat), List.length_cons, Nat.pow_succ]
    rw [Nat.add_mul, Nat.zero_mul, Nat.zero_add, Nat.add_assoc, Nat.mul_assoc, Nat.mul_comm 256]
theorem num_append (a b : List UInt8) : num (a ++ b) = num a * 256 ^ b.length + num b := by
  show (a ++ b).foldl _ 0 = _
  rw [List.foldl_append, num_from]; rfl
theorem num_snoc (a : List UInt8) (c : UInt8) : num (a ++ [c]) = num a * 256 + c.toNat := by
  rw [num_append]; simp [num]
theorem num_lt (l : List UInt8) : num l < 256 ^ l.length := by
  have : ∀ (k : Nat) (l : List UInt8), l.length = k -> num l < 256 ^ k := by
    intro k
    induction k with
    | zero => intro l h; have : l = [] := List.eq_nil_of_length_eq_zero h; subst this; simp [num]
    | succ k ih =>
      intro l h
      have hne : l ≠ [] := by rintro rfl; simp at h
      rw [<- List.dropLast_concat_getLast hne, num_snoc]
      have h1 := ih l.dropLast (by simp [h])
      have h2 := (l.getLast hne).toNat_lt
      rw [Nat.pow_succ]
      omega
  exact this _ l rfl
theorem num_be (k n : Nat) : num (be k n) = n % 256 ^ k := by
  induction k generalizing n with
  | zero => simp [be, num, Nat.mod_one]
  | succ k ih =>
    rw [be, num_snoc, ih]
    have : (UInt8.ofNat (n % 256)).toNat = n % 256 := by simp
    rw [this, Nat.pow_succ, Nat.mul_comm (256 ^ k) 256, Nat.mod_mul]
    omega
theorem num_be_lt {k n : Nat} (h : n < 256 ^ k) : num (be k n) = n := by rw [num_be, Nat.mod_eq_of_lt h]
theorem be_getElem? (k n j : Nat) (h : j < k) : (be k n)[j]? = some (UInt8.ofNat (n / 256 ^ (k - 1 - j) % 256)) := by
  induction k generalizing n j with
  | zero => omega
  | succ k ih =>
    rw [be]
    by_cases hj : j < k
    · rw [List.getElem?_append_left (by rw [be_length]; exact hj), ih _ _ hj]
      have e : k + 1 - 1 - j = (k - 1 - j) + 1 := by omega
      rw [e, Nat.pow_succ, Nat.mul_comm (256 ^ _), Nat.div_div_eq_div_mul]
    · obtain rfl : j = k := by omega
      rw [List.getElem?_append_right (by rw [be_length]; omega), be_length]
      simp
theorem be_take_succ (k n j : Nat) (h : j < k) : (be k n).take (j + 1) = (be k n).take j ++ [UInt8.ofNat (n / 256 ^ (k - 1 - j) % 256)] := by
  rw [List.take_add_one, be_getElem? k n j h]; rfl
def fits (k : Nat) (n : Int) : Bool := decide (0 <= n) && decide (n < (256 ^ k : Nat))
def putS (k : Nat) (n : Int) : List UInt8 := if fits k n then be k n.toNat else []
structure Rd where
  rest : List UInt8
  err : Int
def Rd.fail (r : Rd) (e : Int) : Rd := if r.err = 0 then { r with err := e } else r
def Rd.bytes (r : Rd) (n : Int) : List UInt8 × Rd :=
  let r1 := if n < 0 then r.fail 1 else if (r.rest.length : Int) < n then r.fail 10 else r
  if r1.err = 0 then (r1.rest.take n.toNat, { r1 with rest := r1.rest.drop n.toNat }) else ([], r1)
def Rd.int (r : Rd) (k : Nat) : Nat × Rd := (num (r.bytes k).1, (r.bytes k).2)
abbrev Run := Int × Int
def okRun (r : Run) : Bool := fits 4 r.1 && fits 4 r.2 && decide (r.1 <= r.2)
def runBytes (r : Run) : List UInt8 := be 4 r.1.toNat ++ be 4 r.2.toNat
def body (next : Int) (l : List Run) : Option (List UInt8) :=
  if fits 4 next && decide (l.length <= 29) && l.all okRun then some (be 4 next.toNat ++ be 2 l.length ++ l.flatMap runBytes) else none
theorem bytes_ok {r : Rd} {k : Nat} (he : r.err = 0) (hk : k <= r.rest.length) : r.bytes k = (r.rest.take k, ⟨r.rest.drop k, 0⟩) := by
  have h1 : ¬ ((k : Int) < 0) := by omega
  have h2 : ¬ ((r.rest.length : Int) < (k : Int)) := by omega
  simp only [Rd.bytes, if_neg h1, if_neg h2, he, if_true, Int.toNat_natCast]
theorem int_ok {r : Rd} {k : Nat} (he : r.err = 0) (hk : k <= r.rest.length) : r.int k = (num (r.rest.take k), ⟨r.rest.drop k, 0⟩) := by
  unfold Rd.int; rw [bytes_ok he hk]
end Cp
namespace Go.Proofs.YtpfplojkiloldaaGreatDoor
open Go.RowKit
theorem sized_any (n : Int) (w : World) : Calls Tryz.prog 94 #[.int .i64 n] w fun e w' => e = .returned (.bool (n == 1 || n == 2 || n == 4)) /\ w = w' := by
  go_enter Tryz.func94, Tryz.ntmps94
  go_wp2
  all_goals go_ret
  all_goals simp [*]
theorem sized_yes (n : Int) (h : n = 1 \/ n = 2 \/ n = 4) (w : World) : Calls Tryz.prog 94 #[.int .i64 n] w fun e w' => e = .returned (.bool true) /\ w = w' := by
  refine (sized_any n w).mono fun e w' ⟨he, hw⟩ => ⟨?_, hw⟩
  rw [he]; rcases h with rfl | rfl | rfl <;> rfl
theorem eiByte : EI Tryz.prog 5 (.int .u8 0) 1 1 := EI.mk (by kernel_rfl)
theorem enc_step (k n j : Nat) (x : Int) (hj : j < k) (hx : x = ((n / 256 ^ (k - 1 - j) % 256 : Nat) : Int)) : ((Cp.be k n).take j).map encB ++ [Value.int .u8 x] = ((Cp.be k n).take (j + 1)).map encB := by
  rw [Cp.be_take_succ k n j hj, List.map_append, List.map_singleton, encB_ofNat, hx, Nat.mod_mod]
set_option maxHeartbeats 1000000 in
theorem put1_fits (n : Int) (w : World) (h0 : 0 <= n) (h1 : n < 256) : Calls Tryz.prog 59 #[.int .i64 1, .int .i64 n] w fun e w' => e = .returned (.tuple #[.string ⟨(Cp.be 1 n.toNat).toArray⟩, .int .i64 0]) /\ Below w.heap.size w w' := by
  have h2 : n / 256 = 0 := by omega
  go_enter Tryz.func59, Tryz.ntmps59
  go_wp2_with (go_at_call 94; refine (sized_yes _ (by omega) _).mono ?_; rintro e w' ⟨rfl, rfl⟩)
  go_loopw [6, 7] (fun v i wr => ∃ j : Nat, j <= 1 /\ i = .int .i64 (0 - j : Int) /\ wr.ownsRow w.heap.size 5 1 v j (((Cp.be 1 n.toNat).take j).map encB) /\ Below w.heap.size w wr) (fun _ i _ => (intOf i + 1).toNat)
  case atStart => exact ⟨0, by omega, rfl, World.ownsRow_nil _ _ _ _, Below.refl _ _⟩
  case round =>
    obtain ⟨j, hj, rfl, hown, hb⟩ := hrel
    rcases (show j = 0 \/ j = 1 by omega) with rfl | rfl
    · go_wp2_with (at_builtin; refine wpList_app1 rfl _ _ 156 rfl eiByte Tryz.underlying156 rfl (by decide) rfl hown rfl (by simp) rfl (by simp [Value.oneCell']) (by decide) (by decide) hb.size ?_; intro v' w1 hown' hgrow hbel _ _)
      go_roundw
      case rel => exact ⟨1, by omega, by go_num, by rw [<- enc_step 1 n.toNat 0 (n) (by omega) (by simp; omega)]; exact hown', hb.trans (hbel.mono (Nat.le_refl _))⟩
      case measure => simp [intOf]
    · rw [List.take_of_length_le (by rw [Cp.be_length]; omega)] at hown
      have hst := str_of_own (P := Tryz.prog) Tryz.underlying156 Tryz.underlying5 Tryz.underlying9 hown
      clear hown
      go_wp2
      go_ret2
      exact ⟨rfl, hb⟩
set_option maxHeartbeats 1000000 in
theorem put2_fits (n : Int) (w : World) (h0 : 0 <= n) (h1 : n < 65536) : Calls Tryz.prog 59 #[.int .i64 2, .int .i64 n] w fun e w' => e = .returned (.tuple #[.string ⟨(Cp.be 2 n.toNat).toArray⟩, .int .i64 0]) /\ Below w.heap.size w w' := by
  have h2 : n / 65536 = 0 := by omega
  go_enter Tryz.func59, Tryz.ntmps59
  go_wp2_with (go_at_call 94; refine (sized_yes _ (by omega) _).mono ?_; rintro e w' ⟨rfl, rfl⟩)
  go_loopw [6, 7] (fun v i wr => ∃ j : Nat, j <= 2 /\ i = .int .i64 (1 - j : Int) /\ wr.ownsRow w.heap.size 5 1 v j (((Cp.be 2 n.toNat).take j).map encB) /\ Below w.heap.size w wr) (fun _ i _ => (intOf i + 1).toNat)
  case atStart => exact ⟨0, by omega, rfl, World.ownsRow_nil _ _ _ _, Below.refl _ _⟩
  case round =>
    obtain ⟨j, hj, rfl, hown, hb⟩ := hrel
    rcases (show j = 0 \/ j = 1 \/ j = 2 by omega) with rfl | rfl | rfl
    · go_wp2_with (at_builtin; refine wpList_app1 rfl _ _ 156 rfl eiByte Tryz.underlying156 rfl (by decide) rfl hown rfl (by simp) rfl (by simp [Value.oneCell']) (by decide) (by decide) hb.size ?_; intro v' w1 hown' hgrow hbel _ _)
      go_roundw
      case rel => exact ⟨1, by omega, by go_num, by rw [<- enc_step 2 n.toNat 0 (n / 256) (by omega) (by simp; omega)]; exact hown', hb.trans (hbel.mono (Nat.le_refl _))⟩
      case measure => simp [intOf]
    · go_wp2_with (at_builtin; refine wpList_app1 rfl _ _ 156 rfl eiByte Tryz.underlying156 rfl (by decide) rfl hown rfl (by simp) rfl (by simp [Value.oneCell']) (by decide) (by decide) hb.size ?_; intro v' w1 hown' hgrow hbel _ _)
      go_roundw
      case rel => exact ⟨2, by omega, by go_num, by rw [<- enc_step 2 n.toNat 1 (n % 256) (by omega) (by simp; omega)]; exact hown', hb.trans (hbel.mono (Nat.le_refl _))⟩
      case measure => simp [intOf]
    · rw [List.take_of_length_le (by rw [Cp.be_length]; omega)] at hown
      have hst := str_of_own (P := Tryz.prog) Tryz.underlying156 Tryz.underlying5 Tryz.underlying9 hown
      clear hown
      go_wp2
      go_ret2
      exact ⟨rfl, hb⟩
set_option maxHeartbeats 1000000 in
theorem put4_fits (n : Int) (w : World) (h0 : 0 <= n) (h1 : n < 4294967296) : Calls Tryz.prog 59 #[.int .i64 4, .int .i64 n] w fun e w' => e = .returned (.tuple #[.string ⟨(Cp.be 4 n.toNat).toArray⟩, .int .i64 0]) /\ Below w.heap.size w w' := by
  have h2 : n / 4294967296 = 0 := by omega
  go_enter Tryz.func59, Tryz.ntmps59
  go_wp2_with (go_at_call 94; refine (sized_yes _ (by omega) _).mono ?_; rintro e w' ⟨rfl, rfl⟩)
  go_loopw [6, 7] (fun v i wr => ∃ j : Nat, j <= 4 /\ i = .int .i64 (3 - j : Int) /\ wr.ownsRow w.heap.size 5 1 v j (((Cp.be 4 n.toNat).take j).map encB) /\ Below w.heap.size w wr) (fun _ i _ => (intOf i + 1).toNat)
  case atStart => exact ⟨0, by omega, rfl, World.ownsRow_nil _ _ _ _, Below.refl _ _⟩
  case round =>
    obtain ⟨j, hj, rfl, hown, hb⟩ := hrel
    rcases (show j = 0 \/ j = 1 \/ j = 2 \/ j = 3 \/ j = 4 by omega) with rfl | rfl | rfl | rfl | rfl
    · go_wp2_with (at_builtin; refine wpList_app1 rfl _ _ 156 rfl eiByte Tryz.underlying156 rfl (by decide) rfl hown rfl (by simp) rfl (by simp [Value.oneCell']) (by decide) (by decide) hb.size ?_; intro v' w1 hown' hgrow hbel _ _)
      go_roundw
      case rel => exact ⟨1, by omega, by go_num, by rw [<- enc_step 4 n.toNat 0 (n / 16777216) (by omega) (by simp; omega)]; exact hown', hb.trans (hbel.mono (Nat.le_refl _))⟩
      case measure => simp [intOf]
    · go_wp2_with (at_builtin; refine wpList_app1 rfl _ _ 156 rfl eiByte Tryz.underlying156 rfl (by decide) rfl hown rfl (by simp) rfl (by simp [Value.oneCell']) (by decide) (by decide) hb.size ?_; intro v' w1 hown' hgrow hbel _ _)
      go_roundw
      case rel => exact ⟨2, by omega, by go_num, by rw [<- enc_step 4 n.toNat 1 (n / 65536 % 256) (by omega) (by simp; omega)]; exact hown', hb.trans (hbel.mono (Nat.le_refl _))⟩
      case measure => simp [intOf]
    · go_wp2_with (at_builtin; refine wpList_app1 rfl _ _ 156 rfl eiByte Tryz.underlying156 rfl (by decide) rfl hown rfl (by simp) rfl (by simp [Value.oneCell']) (by decide) (by decide) hb.size ?_; intro v' w1 hown' hgrow hbel _ _)
      go_roundw
      case rel => exact ⟨3, by omega, by go_num, by rw [<- enc_step 4 n.toNat 2 (n / 256 % 256) (by omega) (by simp; omega)]; exact hown', hb.trans (hbel.mono (Nat.le_refl _))⟩
      case measure => simp [intOf]
    · go_wp2_with (at_builtin; refine wpList_app1 rfl _ _ 156 rfl eiByte Tryz.underlying156 rfl (by decide) rfl hown rfl (by simp) rfl (by simp [Value.oneCell']) (by decide) (by decide) hb.size ?_; intro v' w1 hown' hgrow hbel _ _)
      go_roundw
      case rel => exact ⟨4, by omega, by go_num, by rw [<- enc_step 4 n.toNat 3 (n % 256) (by omega) (by simp; omega)]; exact hown', hb.trans (hbel.mono (Nat.le_refl _))⟩
      case measure => simp [intOf]
    · rw [List.take_of_length_le (by rw [Cp.be_length]; omega)] at hown
      have hst := str_of_own (P := Tryz.prog) Tryz.underlying156 Tryz.underlying5 Tryz.underlying9 hown
      clear hown
      go_wp2
      go_ret2
      exact ⟨rfl, hb⟩
end Go.Proofs.YtpfplojkiloldaaGreatDoor
namespace Go.Proofs.YtpfplojkiloldaaGreatDoor
open Go.RowKit
def rdCells (r : Cp.Rd) : Array Value := #[.string ⟨r.rest.toArray⟩, .int .i64 r.err]
theorem fail_any (g : Nat) (r : Cp.Rd) (x : Int) (w : World) (h : Blk w g 223 (rdCells r)) :
    Calls Tryz.prog 159 #[.pointer (some ⟨g, 0, none⟩), .int .i64 x] w fun e w' => e = .returned (.tuple #[]) /\ Blk w' g 223 (rdCells (r.fail x)) /\ w.grownBy w' (some g) := by
  have h1 := h.cell 1
  have f1 := h.frozen 1
  simp only [rdCells] at h1
  by_cases hr : r.err = 0
  · rw [Cp.Rd.fail, if_pos hr]
    rw [hr] at h1
    have hb := h.set_ 1 (.int .i64 x)
    have hg : w.grownBy (w.setCell ⟨g, 1, none⟩ (.int .i64 x)) (some g) := only_setCell (p := ⟨g, 1, none⟩) (World.grownBy.refl w (some g)) (.inl rfl) _
    clear h hr
    go_enter Tryz.func159, Tryz.ntmps159
    go_wp2
    go_end0
    exact ⟨rfl, hb, hg⟩
  · rw [Cp.Rd.fail, if_neg hr]
    have hr' : (r.err == 0) = false := by simpa using hr
    clear hr
    go_enter Tryz.func159, Tryz.ntmps159
    go_wp2
    go_end0
    exact ⟨rfl, h, World.grownBy.refl _ _⟩
theorem read_any (s : List UInt8) (w : World) : Calls Tryz.prog 122 #[.string ⟨s.toArray⟩] w fun e w' => e = .returned (.pointer (some ⟨w.heap.size, 0, none⟩)) /\ w' = w.alloc (.cells (rdCells ⟨s, 0⟩) 223) := by
  go_enter Tryz.func122, Tryz.ntmps122
  go_wp2
  go_ret
  exact ⟨rfl, rfl⟩
theorem extract_take (l : List UInt8) (n : Nat) : ByteArray.extract ⟨l.toArray⟩ 0 n = ⟨(l.take n).toArray⟩ := by
  apply ByteArray.ext; simp
theorem extract_drop (l : List UInt8) (n : Nat) : ByteArray.extract ⟨l.toArray⟩ n l.length = ⟨(l.drop n).toArray⟩ := by
  apply ByteArray.ext; simp
  rw [List.take_of_length_le (by simp)]
set_option maxHeartbeats 400000 in
theorem bytes_any (g : Nat) (r : Cp.Rd) (n : Int) (w : World) (h : Blk w g 223 (rdCells r)) :
    Calls Tryz.prog 160 #[.pointer (some ⟨g, 0, none⟩), .int .i64 n] w fun e w' => e = .returned (.string ⟨(r.bytes n).1.toArray⟩) /\ Blk w' g 223 (rdCells (r.bytes n).2) /\ w.grownBy w' (some g) := by
  have h0 := h.cell 0
  have h1 := h.cell 1
  have f1 := h.frozen 0
  simp only [rdCells] at h0 h1
  by_cases hn : n < 0
  · have hb : r.bytes n = (if (r.fail 1).err = 0 then ((r.fail 1).rest.take n.toNat, { r.fail 1 with rest := (r.fail 1).rest.drop n.toNat }) else ([], r.fail 1)) := by simp only [Cp.Rd.bytes, if_pos hn]
    have he : (r.fail 1).err ≠ 0 := by unfold Cp.Rd.fail; split <;> simp_all
    rw [if_neg he] at hb
    rw [hb]
    have he' : ((r.fail 1).err == 0) = false := by simpa using he
    clear hb he
    generalize hr : r.fail 1 = r' at *
    have HR := Lib.hid hr
    clear hr
    go_enter Tryz.func160, Tryz.ntmps160
    go_wp2_with (go_at_call 159; refine (fail_any g r 1 w h).mono ?_; rintro e w' ⟨rfl, hB, hg⟩; rw [HR.out] at hB; have g1 := hB.cell 1; simp only [rdCells] at g1)
    go_ret
    exact ⟨rfl, hB, hg⟩
  · by_cases hm : (r.rest.length : Int) < n
    · have hb : r.bytes n = (if (r.fail 10).err = 0 then ((r.fail 10).rest.take n.toNat, { r.fail 10 with rest := (r.fail 10).rest.drop n.toNat }) else ([], r.fail 10)) := by simp only [Cp.Rd.bytes, if_neg hn, if_pos hm]
      have he : (r.fail 10).err ≠ 0 := by unfold Cp.Rd.fail; split <;> simp_all
      rw [if_neg he] at hb
      rw [hb]
      have he' : ((r.fail 10).err == 0) = false := by simpa using he
      clear hb he
      generalize hr : r.fail 10 = r' at *
      have HR := Lib.hid hr
      clear hr
      go_enter Tryz.func160, Tryz.ntmps160
      go_wp2_with (go_at_call 159; refine (fail_any g r 10 w h).mono ?_; rintro e w' ⟨rfl, hB, hg⟩; rw [HR.out] at hB; have g1 := hB.cell 1; simp only [rdCells] at g1)
      go_ret
      exact ⟨rfl, hB, hg⟩
    · obtain ⟨k, rfl⟩ := Int.eq_ofNat_of_zero_le (show 0 <= n by omega)
      have hk : k <= r.rest.length := by omega
      by_cases he : r.err = 0
      · rw [Cp.bytes_ok he hk]
        have hb : Blk (w.setCell ⟨g, 0, none⟩ (.string ⟨(r.rest.drop k).toArray⟩)) g 223 (rdCells ⟨r.rest.drop k, 0⟩) := by
          have := h.set_ 0 (.string ⟨(r.rest.drop k).toArray⟩)
          simpa [rdCells, he] using this
        have hg : w.grownBy (w.setCell ⟨g, 0, none⟩ (.string ⟨(r.rest.drop k).toArray⟩)) (some g) := only_setCell (p := ⟨g, 0, none⟩) (World.grownBy.refl w (some g)) (.inl rfl) _
        rw [he] at h1
        have HB := Lib.hid hb
        have HG := Lib.hid hg
        clear hb hg h he
        go_enter Tryz.func160, Tryz.ntmps160
        go_wp2
        rw [extract_drop]
        go_ret
        exact ⟨by rw [<- extract_take]; rfl, HB.out, HG.out⟩
      · have hb : r.bytes k = ([], r) := by
          have e1 : ¬ ((k : Int) < 0) := by omega
          simp only [Cp.Rd.bytes, if_neg e1, if_neg hm, if_neg he]
        rw [hb]
        have he' : (r.err == 0) = false := by simpa using he
        clear hb he
        go_enter Tryz.func160, Tryz.ntmps160
        go_wp2
        go_ret
        exact ⟨rfl, h, World.grownBy.refl _ _⟩
end Go.Proofs.YtpfplojkiloldaaGreatDoor
namespace Go.Proofs.YtpfplojkiloldaaGreatDoor
open Go.RowKit
theorem ofInt_i64 (a : Nat) (ha : a < 9223372036854775808) : (BitVec.ofInt 64 (a : Int)).toNat = a := by
  rw [BitVec.ofInt_natCast, BitVec.toNat_ofNat]; exact Nat.mod_eq_of_lt (by omega)
theorem i64_or_nat (a b : Nat) (ha : a < 9223372036854775808) (hb : b < 9223372036854775808) : bits .or .i64 (a : Int) (b : Int) = ((a ||| b : Nat) : Int) := by
  have hx : a ||| b < 2 ^ 63 := Nat.or_lt_two_pow (by omega) (by omega)
  show IntKind.i64.wrap ((BitVec.ofInt 64 (a : Int) ||| BitVec.ofInt 64 (b : Int)).toNat : Int) = _
  rw [BitVec.toNat_or, ofInt_i64 a ha, ofInt_i64 b hb, IntKind.wrap_i64]
  omega
theorem i64_xor_nat (a b : Nat) (ha : a < 9223372036854775808) (hb : b < 9223372036854775808) : bits .xor .i64 (a : Int) (b : Int) = ((a ^^^ b : Nat) : Int) := by
  have hx : a ^^^ b < 2 ^ 63 := Nat.xor_lt_two_pow (by omega) (by omega)
  show IntKind.i64.wrap ((BitVec.ofInt 64 (a : Int) ^^^ BitVec.ofInt 64 (b : Int)).toNat : Int) = _
  rw [BitVec.toNat_xor, ofInt_i64 a ha, ofInt_i64 b hb, IntKind.wrap_i64]
  omega
theorem nat_or_byte (a b : Nat) (hb : b < 256) : a * 256 ||| b = a * 256 + b := by
  have h := Nat.shiftLeft_add_eq_or_of_lt (i := 8) (b := b) hb a
  rw [Nat.shiftLeft_eq] at h
  exact h.symm
theorem or_byte (a b : Nat) (ha : a <= 16777215) (hb : b < 256) : bits .or .i64 ((a : Int) * 256) (b : Int) = ((a * 256 + b : Nat) : Int) := by
  have h := i64_or_nat (a * 256) b (by omega) (by omega)
  rw [nat_or_byte a b hb] at h
  rw [<- h, Int.natCast_mul]
  rfl
theorem num_take_succ (l : List UInt8) (j : Nat) (hj : j < l.length) : Cp.num (l.take (j + 1)) = Cp.num (l.take j) * 256 + l[j].toNat := by
  rw [List.take_succ_eq_append_getElem hj, Cp.num_snoc]
theorem num_small (l : List UInt8) (j : Nat) (hj : j < l.length) (hl : l.length <= 4) : Cp.num (l.take j) <= 16777215 := by
  have h := Cp.num_lt (l.take j)
  have h2 : (l.take j).length <= 3 := by simp; omega
  have h3 : 256 ^ (l.take j).length <= 256 ^ 3 := Nat.pow_le_pow_right (by omega) h2
  omega
theorem bytes_len_le (r : Cp.Rd) (k : Nat) : (r.bytes k).1.length <= k := by
  unfold Cp.Rd.bytes
  simp only
  generalize (if (k : Int) < 0 then r.fail 1 else if (r.rest.length : Int) < k then r.fail 10 else r) = x
  split
  · simp; omega
  · simp
set_option maxHeartbeats 400000 in
theorem int_any (g : Nat) (r : Cp.Rd) (k : Nat) (w : World) (h : Blk w g 223 (rdCells r)) (hk : k = 1 \/ k = 2 \/ k = 4) :
    Calls Tryz.prog 123 #[.pointer (some ⟨g, 0, none⟩), .int .i64 k] w fun e w' => e = .returned (.int .i64 (r.int k).1) /\ Blk w' g 223 (rdCells (r.int k).2) /\ w.grownBy w' (some g) := by
  unfold Cp.Rd.int
  have hlen : (r.bytes k).1.length <= 4 := by have := bytes_len_le r k; omega
  have hb0 := bytes_any g r k w h
  have hglt := h.lt
  generalize hl : (r.bytes k).1 = l at *
  generalize hr : (r.bytes k).2 = r' at *
  have HL := Lib.hid hl
  have HR := Lib.hid hr
  have HB := Lib.hid hb0
  clear hl hr hb0
  go_enter Tryz.func123, Tryz.ntmps123
  go_wp2_with (first | (go_at_call 94; refine (sized_yes _ (by omega) _).mono ?_; rintro e w' ⟨rfl, rfl⟩) | (go_at_call 160; refine HB.out.mono ?_; rintro e w1 ⟨rfl, hB, hg⟩; obtain ⟨cap, w2, hrun, hg2, hcells⟩ := bytes_of_str (P := Tryz.prog) w1 l Tryz.underlying9 Tryz.underlying156 Tryz.underlying5))
  go_loop [5, 18] (fun n i => ∃ j : Nat, j <= l.length /\ i = .int .i64 j /\ n = .int .i64 (Cp.num (l.take j))) (fun _ i => l.length - (intOf i).toNat)
  case atStart => exact ⟨0, by omega, rfl, rfl⟩
  case round =>
    obtain ⟨j, hj, rfl, rfl⟩ := hrel
    by_cases hlt : j < l.length
    · have hc := hcells j hlt
      have hnx := num_take_succ l j hlt
      have hb24 := num_small l j hlt hlen
      have hb8 := l[j].toNat_lt
      have HNX := Lib.hid hnx
      clear hnx hcells
      go_wp2
      exact ⟨⟨j + 1, by omega, by go_num, by rw [or_byte _ _ hb24 hb8, HNX.out]⟩, by simp [intOf]; omega⟩
    · clear hcells
      go_wp2
      go_ret
      refine ⟨?_, ?_, ?_⟩
      · rw [List.take_of_length_le (by omega)]; rfl
      · have := hB.grown hg2 (by simp); exact this
      · exact hg.trans (grown_of_none hg2 _)
theorem int_app {x y : List UInt8} {k : Nat} (h : x.length = k) : Cp.Rd.int ⟨x ++ y, 0⟩ k = (Cp.num x, ⟨y, 0⟩) := by
  rw [Cp.int_ok rfl (by show k <= (x ++ y).length; rw [List.length_append]; omega)]
  show (Cp.num ((x ++ y).take k), (⟨(x ++ y).drop k, 0⟩ : Cp.Rd)) = _
  rw [List.take_left' h, List.drop_left' h]
theorem bytes_app {x y : List UInt8} {k : Nat} (h : x.length = k) : Cp.Rd.bytes ⟨x ++ y, 0⟩ k = (x, ⟨y, 0⟩) := by
  rw [Cp.bytes_ok rfl (by show k <= (x ++ y).length; rw [List.length_append]; omega)]
  show ((x ++ y).take k, (⟨(x ++ y).drop k, 0⟩ : Cp.Rd)) = _
  rw [List.take_left' h, List.drop_left' h]
end Go.Proofs.YtpfplojkiloldaaGreatDoor
namespace Go.Proofs.YtpfplojkiloldaaGreatDoor
open Go.RowKit
def HT (w : World) : Prop := 0 < w.heap.size /\ ∀ i, i < 16 -> w.cell? ⟨0, i, none⟩ = some (.int .u32 ((Cc.hv.getD i 0 : Nat) : Int))
theorem HT.below {w w' : World} {B : Nat} (h : HT w) (hb : Below B w w') (hB : 0 < B) : HT w' := by
  refine ⟨by have := hb.size; have := h.1; omega, fun i hi => ?_⟩
  rw [hb.cell (p := ⟨0, i, none⟩) hB]; exact h.2 i hi
theorem and15 (n : Nat) (h : n < 4294967296) : bits .and .u32 (n : Int) 15 = ((n % 16 : Nat) : Int) := by
  have e := u32_and_nat n 15 h (by decide)
  rw [show (15 : Nat) = 2 ^ 4 - 1 from rfl, Nat.and_two_pow_sub_one_eq_mod] at e
  exact e
theorem half_bits (n : Nat) (h : n < 4294967296) : bits .xor .u32 ((n : Int) / 16) ((Cc.hv.getD (n % 16) 0 : Nat) : Int) = ((Cc.half n : Nat) : Int) :=
  u32_xor_nat (n / 16) (Cc.hv.getD (n % 16) 0) (by omega) (Cc.hv_lt _)
set_option maxHeartbeats 1000000 in
theorem step_any (c b : Nat) (hc : c < 4294967296) (hb : b < 256) (w : World) (h : HT w) :
    Calls Tryz.prog 138 #[.int .i64 c, .int .u8 b] w fun e w' => e = .returned (.int .i64 (Cc.step c b)) /\ w' = w := by
  have e1 : IntKind.u32.wrap (c : Int) = c := IntWalk.u32_in _ (by omega)
  have e2 : IntKind.u32.wrap (b : Int) = b := IntWalk.u32_in _ (by omega)
  have e3 := u32_xor_nat c b hc (by omega)
  have h1 := Cc.xor_lt hc hb
  have g1 := h.2 ((c ^^^ b) % 16) (by omega)
  have h2 := Cc.half_lt h1
  have g2 := h.2 (Cc.half (c ^^^ b) % 16) (by omega)
  have e4 := and15 _ h1
  have e5 := and15 _ h2
  have e6 := half_bits _ h1
  have e7 := half_bits _ h2
  have h3 := Cc.half_lt h2
  unfold Cc.step
  generalize Cc.half (Cc.half (c ^^^ b)) = z at *
  generalize Cc.half (c ^^^ b) = y at *
  generalize c ^^^ b = x at *
  generalize Cc.hv.getD (x % 16) 0 = p at *
  generalize Cc.hv.getD (y % 16) 0 = q at *
  go_enter Tryz.func138, Tryz.ntmps138
  go_wp2
  go_ret
  exact ⟨rfl, rfl⟩
theorem run_take_succ (c : Nat) (l : List UInt8) (j : Nat) (hj : j < l.length) : Cc.run c (l.take (j + 1)) = Cc.step (Cc.run c (l.take j)) l[j].toNat := by
  rw [List.take_succ_eq_append_getElem hj, Cc.run_append]; rfl
theorem sum_bits (l : List UInt8) : bits .xor .i64 ((Cc.run 4294967295 l : Nat) : Int) 4294967295 = ((Cc.sum l : Nat) : Int) :=
  i64_xor_nat (Cc.run 4294967295 l) 4294967295 (by have := Cc.run_lt l (c := 4294967295) (by decide); omega) (by decide)
set_option maxHeartbeats 1000000 in
theorem sum_any (g c : Nat) (l : List UInt8) (hl : l.length <= 1000000) (w : World) (hT : HT w) (hg : w.cell? ⟨g, 0, none⟩ = some (.string ⟨l.toArray⟩)) :
    Calls Tryz.prog 98 #[.slice (some ⟨g, 0, none⟩) 1 c] w fun e w' => e = .returned (.int .i64 (Cc.sum l)) /\ w.grownBy w' none := by
  have hsum := sum_bits l
  obtain ⟨R, hR⟩ : ∃ R, R = Cc.sum l := ⟨_, rfl⟩
  rw [<- hR] at hsum ⊢
  clear hR
  go_enter Tryz.func98, Tryz.ntmps98
  go_wp2
  go_loopw [3, 10] (fun v i wr => (i = .int .i64 0 /\ v = .int .i64 4294967295 /\ wr = w) \/ (i = .int .i64 1 /\ v = .int .i64 (Cc.run 4294967295 l : Nat) /\ w.grownBy wr none)) (fun _ i _ => 1 - (intOf i).toNat)
  case atStart => exact .inl ⟨rfl, rfl, rfl⟩
  case round =>
    rcases hrel with ⟨rfl, rfl, rfl⟩ | ⟨rfl, rfl, hgr⟩
    · obtain ⟨cap, w2, hrun, hg2, hcells⟩ := bytes_of_str (P := Tryz.prog) wr l Tryz.underlying9 Tryz.underlying156 Tryz.underlying5
      have hT2 : HT w2 := hT.below (below_of_none hg2 (Nat.le_refl _)) hT.1
      go_wp2
      go_loop [3, 17] (fun v i => ∃ j : Nat, j <= l.length /\ i = .int .i64 j /\ v = .int .i64 (Cc.run 4294967295 (l.take j) : Nat)) (fun _ i => l.length - (intOf i).toNat)
      case atStart => exact ⟨0, by omega, rfl, rfl⟩
      case round =>
        obtain ⟨j, hj, rfl, rfl⟩ := hrel
        by_cases hlt : j < l.length
        · have hc := hcells j hlt
          have hnx := Lib.hid (run_take_succ 4294967295 l j hlt)
          have hrl := Cc.run_lt (l.take j) (c := 4294967295) (by decide)
          have hb8 := l[j].toNat_lt
          have hst := fun W h => step_any (Cc.run 4294967295 (l.take j)) l[j].toNat hrl hb8 W h
          clear hcells
          go_wp2_with (go_at_call 138; refine (hst _ hT2).mono ?_; rintro e w3 ⟨rfl, rfl⟩)
          exact ⟨⟨j + 1, by omega, by go_num, by rw [hnx.out]⟩, by simp [intOf]; omega⟩
        · obtain rfl : j = l.length := by omega
          rw [List.take_of_length_le (Nat.le_refl _)]
          clear hcells
          go_wp2
          exact ⟨.inr ⟨rfl, rfl, hg2⟩, by simp [intOf]⟩
    · go_wp2
      go_ret
      exact ⟨rfl, hgr⟩
end Go.Proofs.YtpfplojkiloldaaGreatDoor
namespace Pg
open Cp
def rest (id kind : Nat) (b : List UInt8) : List UInt8 := be 4 id ++ (be 1 kind ++ (be 1 0 ++ (be 2 b.length ++ ([0, 0, 0, 0] ++ (b ++ List.replicate (240 - b.length) 0)))))
theorem rest_length (id kind : Nat) (b : List UInt8) (h : b.length <= 240) : (rest id kind b).length = 252 := by
  unfold rest
  simp only [List.length_append, be_length, List.length_cons, List.length_nil, List.length_replicate]
  omega
def page (id kind : Nat) (b : List UInt8) : List UInt8 := be 4 (Cc.sum (rest id kind b)) ++ rest id kind b
theorem page_length (id kind : Nat) (b : List UInt8) (h : b.length <= 240) : (page id kind b).length = 256 := by
  unfold page; rw [List.length_append, be_length, rest_length id kind b h]
end Pg
namespace Go.Proofs.YtpfplojkiloldaaGreatDoor
open Go.RowKit
theorem str_append (a b : List UInt8) : (⟨a.toArray⟩ : ByteArray) ++ ⟨b.toArray⟩ = ⟨(a ++ b).toArray⟩ := by
  apply ByteArray.ext; simp
end Go.Proofs.YtpfplojkiloldaaGreatDoor
namespace Go.Proofs.YtpfplojkiloldaaGreatDoor
open Go.RowKit
end Go.Proofs.YtpfplojkiloldaaGreatDoor
