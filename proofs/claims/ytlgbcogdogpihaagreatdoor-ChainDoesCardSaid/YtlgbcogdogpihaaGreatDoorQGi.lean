/- The walk of page.Seal. The walk of page.Check. The walks of codec's Left, End; of page.Open. page.Open at what a page is, and at noughts. -/
import Derived.Test.YtlgbcogdogpihaaGreatDoorQPage
import Derived.Test.YtlgbcogdogpihaaGreatDoorQRepeat
import Derived.Test.YtlgbcogdogpihaaGreatDoorQGd
namespace Go.Proofs.YtlgbcogdogpihaaGreatDoor
open Go.RowKit Go.Shelf
theorem rep_zero (n : Nat) : Lib.repeatL [0] n = List.replicate n (0 : UInt8) := by
  induction n with
  | zero => rfl
  | succ n ih => rw [Lib.repeatL, ih]; rfl
theorem zeros_any (n : Nat) (hn : n ≤ 240) (w : World) : Calls Tryz.prog 38 #[.string ⟨#[0]⟩, .int .i64 n] w fun e w' => e = .returned (.string ⟨(List.replicate n (0 : UInt8)).toArray⟩) ∧ Below w.heap.size w w' := by
  have h := srepeat_any ⟨#[0]⟩ n w (by omega) (by show 1 * n ≤ _; omega)
  have e : Lib.repeatL (⟨#[0]⟩ : ByteArray).data.toList n = List.replicate n (0 : UInt8) := by
    exact rep_zero n
  rwa [e] at h
def SealEnd (s : List UInt8) (x : Int) (w : World) (e : Ending) (w' : World) : Prop := e = .returned (.tuple #[.string ⟨s.toArray⟩, .int .i64 x]) ∧ Below w.heap.size w w'
set_option maxRecDepth 100000 in
set_option maxHeartbeats 1000000 in
theorem seal_ok (id kind : Nat) (b : List UInt8) (hi : id < 4294967296) (hk : kind < 256) (hb : b.length ≤ 240) (w : World) (hT : HT w) :
    Calls Tryz.prog 54 #[.int .i64 id, .int .u8 kind, .string ⟨b.toArray⟩] w (SealEnd (Pg.page id kind b) 0 w) := by
  obtain ⟨O, hO⟩ : ∃ O, O = Pg.page id kind b := ⟨_, rfl⟩
  rw [← hO]
  have hrl := Pg.rest_length id kind b hb
  have hcs := Cc.sum_lt (Pg.rest id kind b)
  unfold Pg.page at hO
  have hP4 := fun W => put4_fits id W (by omega) (by omega)
  rw [Int.toNat_natCast] at hP4
  have hI := Cp.be_length 4 id
  have hCl := Cp.be_length 4 (Cc.sum (Pg.rest id kind b))
  have hK := fun W => pput1_any kind hk W
  have h0 := fun W => pput1_any 0 (by decide) W
  have hL := fun W => pput2_any b.length (by omega) W
  have hZ := fun W => zeros_any (240 - b.length) (by omega) W
  have hJ := fun g W g0 g1 g2 g3 g4 g5 g6 => join7_any g (Cp.be 4 id) (Cp.be 1 kind) (Cp.be 1 0) (Cp.be 2 b.length) [0, 0, 0, 0] b (List.replicate (240 - b.length) 0) W g0 g1 g2 g3 g4 g5 g6 (by have := hrl; unfold Pg.rest at this; omega)
  have hS := fun g W h hg => sum_any g 1 (Pg.rest id kind b) (by omega) W h hg
  have hC := fun W => pput4_any (Cc.sum (Pg.rest id kind b)) hcs W
  change ∀ (g : Nat) (W : World) _ _ _ _ _ _ _, Calls Tryz.prog 96 #[.slice (some ⟨g, 0, none⟩) 7 7] W fun r w' => r = .returned (.string ⟨(Pg.rest id kind b).toArray⟩) ∧ Below W.heap.size W w' at hJ
  generalize Cc.sum (Pg.rest id kind b) = S at *
  generalize Pg.rest id kind b = R at *
  generalize hzz : List.replicate (240 - b.length) (0 : UInt8) = Z at *
  generalize Cp.be 4 id = I at *
  generalize Cp.be 1 kind = K at *
  generalize Cp.be 1 0 = N at *
  generalize Cp.be 2 b.length = L at *
  generalize hcc : Cp.be 4 S = C at *
  have hZ' : ∀ W : World, Calls Tryz.prog 38 #[.string ⟨#[0]⟩, .int .i64 (240 - (b.length : Int))] W fun e w' => e = .returned (.string ⟨Z.toArray⟩) ∧ Below W.heap.size W w' := by
    intro W; have := hZ W; rwa [show ((240 - b.length : Nat) : Int) = 240 - (b.length : Int) by omega] at this
  have HO := Lib.hid hO
  have HP4 := Lib.hid hP4
  have HK := Lib.hid hK
  have H0 := Lib.hid h0
  have HL := Lib.hid hL
  have HZ := Lib.hid hZ'
  have HJ := Lib.hid hJ
  have HS := Lib.hid hS
  have HC := Lib.hid hC
  clear hO hP4 hK h0 hL hZ hZ' hJ hS hC hzz hcc
  go_enter Tryz.func54, Tryz.ntmps54
  go_wp2_with fail
  refine Calls.mono (HP4.out _) ?_
  rintro e w1 ⟨rfl, b1⟩
  go_wp2_with fail
  refine Calls.mono (HK.out _) ?_
  rintro e w2 ⟨rfl, b2⟩
  go_wp2_with fail
  refine Calls.mono (H0.out _) ?_
  rintro e w3 ⟨rfl, b3⟩
  go_wp2_with fail
  refine Calls.mono (HL.out _) ?_
  rintro e w4 ⟨rfl, b4⟩
  go_wp2_with fail
  refine Calls.mono (HZ.out _) ?_
  rintro e w5 ⟨rfl, b5⟩
  have hbw5 : Below w.heap.size w w5 := (((b1.trans (b2.mono b1.size)).trans (b3.mono (Nat.le_trans b1.size b2.size))).trans (b4.mono (Nat.le_trans b1.size (Nat.le_trans b2.size b3.size)))).trans (b5.mono (Nat.le_trans b1.size (Nat.le_trans b2.size (Nat.le_trans b3.size b4.size))))
  have hT5 := hT.below hbw5 hT.1
  go_wp2_with fail
  have hB := Blk.new w5 9 #[.string ⟨I.toArray⟩, .string ⟨K.toArray⟩, .string ⟨N.toArray⟩, .string ⟨L.toArray⟩, .string ⟨#[0, 0, 0, 0]⟩, .string ⟨b.toArray⟩, .string ⟨Z.toArray⟩]
  refine Calls.mono (HJ.out w5.heap.size _ (hB.cell 0) (hB.cell 1) (hB.cell 2) (hB.cell 3) (hB.cell 4) (hB.cell 5) (hB.cell 6)) ?_
  rintro e w6 ⟨rfl, b6⟩
  have hb0 := hbw5.alloc hbw5.size (.cells #[.string ⟨I.toArray⟩, .string ⟨K.toArray⟩, .string ⟨N.toArray⟩, .string ⟨L.toArray⟩, .string ⟨#[0, 0, 0, 0]⟩, .string ⟨b.toArray⟩, .string ⟨Z.toArray⟩] 9)
  have hbw6 := hb0.trans (b6.mono hb0.size)
  have hT6 := hT.below hbw6 hT.1
  clear hB b1 b2 b3 b4 b5 b6 hb0 hT5
  go_wp2_with fail
  have hB := Blk.new w6 9 #[.string ⟨R.toArray⟩]
  have hT7 : HT (w6.alloc (.cells #[.string ⟨R.toArray⟩] 9)) := hT.below (hbw6.alloc hbw6.size _) hT.1
  refine Calls.mono (HS.out w6.heap.size _ hT7 (hB.cell 0)) ?_
  rintro e w7 ⟨rfl, g7⟩
  have hb6 := hbw6.alloc hbw6.size (.cells #[.string ⟨R.toArray⟩] 9)
  have b7 := below_of_none g7 (Nat.le_refl _)
  have hbw7 := hb6.trans (b7.mono hb6.size)
  clear hB hT7 hb6 b7 g7
  go_wp2_with fail
  refine Calls.mono (HC.out _) ?_
  rintro e w8 ⟨rfl, b8⟩
  have hbw8 := hbw7.trans (b8.mono hbw7.size)
  have hx : (⟨C.toArray⟩ : ByteArray) ++ ⟨R.toArray⟩ = ⟨O.toArray⟩ := by rw [HO.out]; exact str_append C R
  go_wp2
  go_ret2
  exact ⟨rfl, hbw8⟩
set_option maxRecDepth 100000 in
theorem seal_long (id : Int) (kind : Nat) (b : List UInt8) (hb : 240 < b.length) (w : World) :
    Calls Tryz.prog 54 #[.int .i64 id, .int .u8 kind, .string ⟨b.toArray⟩] w (SealEnd [] 50 w) := by
  have hd : decide ((240 : Int) < (b.length : Int)) = true := by simp; omega
  go_enter Tryz.func54, Tryz.ntmps54
  go_wp2
  go_ret2
  exact ⟨rfl, Below.refl _ _⟩
set_option maxRecDepth 100000 in
theorem seal_bad (id : Int) (kind : Nat) (b : List UInt8) (hb : b.length ≤ 240) (hi : id < 0 ∨ 4294967296 ≤ id) (w : World) :
    Calls Tryz.prog 54 #[.int .i64 id, .int .u8 kind, .string ⟨b.toArray⟩] w (SealEnd [] 1 w) := by
  have hd : decide ((240 : Int) < (b.length : Int)) = false := by simp; omega
  have hP := fun W => put4_not id W hi
  go_enter Tryz.func54, Tryz.ntmps54
  go_wp2_with fail
  refine Calls.mono (hP _) ?_
  rintro e w1 ⟨rfl, rfl⟩
  go_wp2
  go_ret2
  exact ⟨rfl, Below.refl _ _⟩
end Go.Proofs.YtlgbcogdogpihaaGreatDoor
namespace Go.Proofs.YtlgbcogdogpihaaGreatDoor
open Go.RowKit Go.Shelf
theorem blk_new1 (w : World) (a : Obj) (t : TypeId) (cs : Array Value) : Blk ((w.alloc a).alloc (.cells cs t)) (w.heap.size + 1) t cs := by
  have h := Blk.new (w.alloc a) t cs
  rwa [World.size_alloc] at h
theorem blk_new1d (w : World) (a : Obj) (t : TypeId) (cs : Array Value) : Blk ((w.alloc a).drew.alloc (.cells cs t)) (w.heap.size + 1) t cs := by
  have h := Blk.new (w.alloc a).drew t cs
  rwa [show (w.alloc a).drew.heap.size = w.heap.size + 1 from World.size_alloc w a] at h
set_option maxRecDepth 100000 in
set_option maxHeartbeats 2000000 in
theorem pcheck_any (s : List UInt8) (hs : s.length = 256) (w : World) (hT : HT w) :
    Calls Tryz.prog 113 #[.string ⟨s.toArray⟩] w fun e w' => e = .returned (.bool (decide ((Cp.num (s.take 4) : Int) = (Cc.sum (s.drop 4) : Int)))) ∧ Below w.heap.size w w' := by
  have hi : (Cp.Rd.int ⟨s, 0⟩ 4).1 = Cp.num (s.take 4) := by rw [Cp.int_ok rfl (by show 4 ≤ s.length; omega)]
  have hex : ByteArray.extract ⟨s.toArray⟩ 4 256 = ⟨(s.drop 4).toArray⟩ := by rw [← hs]; exact extract_drop s 4
  have hsl : (s.drop 4).length ≤ 1000000 := by rw [List.length_drop]; omega
  have hI := fun g W h => int_any g ⟨s, 0⟩ 4 W h (by omega)
  rw [hi] at hI
  have hS := fun g W h hg => sum_any g 1 (s.drop 4) hsl W h hg
  generalize Cp.num (s.take 4) = N at *
  generalize Cc.sum (s.drop 4) = S at *
  generalize s.drop 4 = d at *
  have hI2 := fun g W h => (hI g W h)
  clear hI hi
  generalize (Cp.Rd.int ⟨s, 0⟩ 4).2 = r' at *
  have HI := Lib.hid hI2
  have HS := Lib.hid hS
  clear hI2 hS
  go_enter Tryz.func113, Tryz.ntmps113
  go_wp2_with fail
  go_region_with (first
    | (go_at_call 75; refine (read_any s _).mono ?_; rintro e w1 ⟨rfl, rfl⟩)
    | (go_at_call 76; refine (HI.out _ _ (by first | exact Blk.new _ _ _ | exact blk_new1 _ _ _ _ | exact (Blk.new _ _ _).alloc _)).mono ?_; rintro e w2 ⟨rfl, -, g2⟩
       have hbw2 : Below w.heap.size w w2 := (by
         refine Below.grown ?_ g2 ?_ ?_
         · repeat (first | exact Below.refl _ _ | apply Below.drew | refine Below.alloc ?_ (by first | simp | (simp; omega)) _)
         · first | (simp; done) | (simp; omega)
         · intro k e; cases e; omega)
       have hT2 := hT.below hbw2 hT.1)
    | (go_at_call 98; refine (HS.out _ _ (by first | exact hT2 | exact hT2.below ((Below.refl _ _).alloc (Nat.le_refl _) _) hT2.1 | exact hT2.below ((Below.refl _ _).alloc (Nat.le_refl _) _).drew hT2.1) (by first | exact (Blk.new w2 _ _).cell 0 | (refine (Blk.grown (t := 9) (cs := #[.string ⟨d.toArray⟩]) ?_ g2 (by simp)).cell 0; first | exact Blk.new _ _ _ | exact blk_new1 _ _ _ _ | exact blk_new1d _ _ _ _ | exact (Blk.new _ _ _).alloc _ | exact (Blk.new _ _ _).drew.alloc _))).mono ?_; rintro e w3 ⟨rfl, g3⟩
       have hbw3 : Below w.heap.size w w3 := (by
         have hsz := hbw2.size
         refine Below.grown ?_ g3 ?_ ?_
         · repeat (first | exact hbw2 | apply Below.drew | refine Below.alloc ?_ (by first | assumption | (simp; omega)) _)
         · first | assumption | (simp; omega)
         · intro k e; cases e)))
  all_goals (
    go_wp2
    go_ret
    exact ⟨rfl, by first | exact hbw3 | exact below_drewN hbw3 _ | exact hbw3.drew⟩)
end Go.Proofs.YtlgbcogdogpihaaGreatDoor
namespace Go.Proofs.YtlgbcogdogpihaaGreatDoor
open Go.RowKit Go.Shelf
theorem int_app {x y : List UInt8} {k : Nat} (h : x.length = k) : Cp.Rd.int ⟨x ++ y, 0⟩ k = (Cp.num x, ⟨y, 0⟩) := by
  rw [Cp.int_ok rfl (by show k ≤ (x ++ y).length; rw [List.length_append]; omega)]
  show (Cp.num ((x ++ y).take k), (⟨(x ++ y).drop k, 0⟩ : Cp.Rd)) = _
  rw [List.take_left' h, List.drop_left' h]
theorem bytes_app {x y : List UInt8} {k : Nat} (h : x.length = k) : Cp.Rd.bytes ⟨x ++ y, 0⟩ k = (x, ⟨y, 0⟩) := by
  rw [Cp.bytes_ok rfl (by show k ≤ (x ++ y).length; rw [List.length_append]; omega)]
  show ((x ++ y).take k, (⟨(x ++ y).drop k, 0⟩ : Cp.Rd)) = _
  rw [List.take_left' h, List.drop_left' h]
theorem left_any (g : Nat) (r : List UInt8) (w : World) (h : Blk w g 176 (rdCells ⟨r, 0⟩)) : Calls Tryz.prog 112 #[.pointer (some ⟨g, 0, none⟩)] w fun e w' => e = .returned (.int .i64 r.length) ∧ w' = w := by
  have h0 := h.cell 0
  simp only [rdCells] at h0
  go_enter Tryz.func112, Tryz.ntmps112
  go_wp2
  go_ret
  exact ⟨rfl, rfl⟩
theorem end_any (g : Nat) (w : World) (h : Blk w g 176 (rdCells ⟨[], 0⟩)) : Calls Tryz.prog 114 #[.pointer (some ⟨g, 0, none⟩)] w fun e w' => e = .returned (.int .i64 0) ∧ w' = w := by
  have h0 := h.cell 0
  have h1 := h.cell 1
  simp only [rdCells] at h0 h1
  go_enter Tryz.func114, Tryz.ntmps114
  go_wp2
  go_ret
  exact ⟨rfl, rfl⟩
def OpenEnd (k : Nat) (b : List UInt8) (x : Int) (w : World) (e : Ending) (w' : World) : Prop := e = .returned (.tuple #[.int .u8 k, .string ⟨b.toArray⟩, .int .i64 x]) ∧ Below w.heap.size w w'
set_option maxRecDepth 100000 in
set_option maxHeartbeats 2000000 in
theorem open_core (id : Int) (s C I K Z L G B R : List UInt8) (hs : s = C ++ (I ++ (K ++ (Z ++ (L ++ (G ++ (B ++ (R ++ []))))))))
    (lC : C.length = 4) (lI : I.length = 4) (lK : K.length = 1) (lZ : Z.length = 1) (lL : L.length = 2) (lG : G.length = 4) (hn : Cp.num L = B.length) (lB : B.length ≤ 240) (lR : R.length = 240 - B.length)
    (c : Bool) (hc : decide ((Cp.num (s.take 4) : Int) = (Cc.sum (s.drop 4) : Int)) = c)
    (k : Nat) (b : List UInt8) (x : Int)
    (hcase : (c = true ∧ (Cp.num I : Int) = id ∧ Cp.num Z = 0 ∧ G = [0, 0, 0, 0] ∧ Lib.trimB R 0 = [] ∧ k = Cp.num K ∧ b = B ∧ x = 0) ∨ ((c = false ∨ (Cp.num I : Int) ≠ id) ∧ k = 0 ∧ b = [] ∧ x = 3))
    (w : World) (hT : HT w) :
    Calls Tryz.prog 71 #[.int .i64 id, .string ⟨s.toArray⟩] w (OpenEnd k b x w) := by
  have hsl : s.length = 256 := by rw [hs]; simp only [List.length_append, List.length_nil]; omega
  have hCk := fun W hT => pcheck_any s hsl W hT
  rw [hc] at hCk
  have h1 := fun g W h => int_any g ⟨C ++ (I ++ (K ++ (Z ++ (L ++ (G ++ (B ++ (R ++ []))))))), 0⟩ 4 W h (by omega)
  rw [← hs] at h1
  have e1 : Cp.Rd.int ⟨s, 0⟩ 4 = (Cp.num C, ⟨I ++ (K ++ (Z ++ (L ++ (G ++ (B ++ (R ++ [])))))), 0⟩) := by rw [hs]; exact int_app lC
  have h2 := fun g W h => int_any g ⟨I ++ (K ++ (Z ++ (L ++ (G ++ (B ++ (R ++ [])))))), 0⟩ 4 W h (by omega)
  have h3 := fun g W h => int_any g ⟨K ++ (Z ++ (L ++ (G ++ (B ++ (R ++ []))))), 0⟩ 1 W h (by omega)
  have h4 := fun g W h => int_any g ⟨Z ++ (L ++ (G ++ (B ++ (R ++ [])))), 0⟩ 1 W h (by omega)
  have h5 := fun g W h => int_any g ⟨L ++ (G ++ (B ++ (R ++ []))), 0⟩ 2 W h (by omega)
  have h6 := fun g W h => bytes_any g ⟨G ++ (B ++ (R ++ [])), 0⟩ (4 : Nat) W h
  have h7 := fun g W h => bytes_any g ⟨B ++ (R ++ []), 0⟩ (B.length : Nat) W h
  have h8 := fun g W h => bytes_any g ⟨R ++ [], 0⟩ (R.length : Nat) W h
  have h9 := fun g W h => left_any g (R ++ []) W h
  rw [e1] at h1
  rw [int_app lI] at h2
  rw [int_app lK] at h3
  rw [int_app lZ] at h4
  rw [int_app lL] at h5
  rw [bytes_app lG] at h6
  rw [bytes_app rfl] at h7
  rw [bytes_app rfl] at h8
  rw [show (R ++ ([] : List UInt8)).length = R.length by simp] at h9
  have hK : Cp.num K < 256 := by have := Cp.num_lt K; rw [lK] at this; simpa using this
  have hRl : R.length ≤ 1000000 := by omega
  have hTr := fun W => trim_any R W hRl
  simp only [hn] at h5
  generalize C ++ (I ++ (K ++ (Z ++ (L ++ (G ++ (B ++ (R ++ []))))))) = s0 at *
  generalize I ++ (K ++ (Z ++ (L ++ (G ++ (B ++ (R ++ [])))))) = s1 at *
  generalize K ++ (Z ++ (L ++ (G ++ (B ++ (R ++ []))))) = s2 at *
  generalize Z ++ (L ++ (G ++ (B ++ (R ++ [])))) = s3 at *
  generalize L ++ (G ++ (B ++ (R ++ []))) = s4 at *
  generalize G ++ (B ++ (R ++ [])) = s5 at *
  generalize B ++ (R ++ []) = s6 at *
  generalize R ++ [] = s7 at *
  generalize hnI : Cp.num I = nI at *
  generalize hnZ : Cp.num Z = nZ at *
  generalize hnK : Cp.num K = nK at *
  generalize hnC : Cp.num C = nC at *
  generalize hTR : Lib.trimB R 0 = tR at *
  generalize hRL : R.length = lr at *
  generalize hBL : B.length = lb at *
  have H1 := Lib.hid h1
  have H2 := Lib.hid h2
  have H3 := Lib.hid h3
  have H4 := Lib.hid h4
  have H5 := Lib.hid h5
  have H6 := Lib.hid h6
  have H7 := Lib.hid h7
  have H8 := Lib.hid h8
  have H9 := Lib.hid h9
  have HC := Lib.hid hCk
  have HTr := Lib.hid hTr
  clear h1 h2 h3 h4 h5 h6 h7 h8 h9 hCk hTr hc e1 hs hsl hn lC lI lK lZ lL lG lR hnI hnZ hnK hnC hTR hRL hBL
  go_enter Tryz.func71, Tryz.ntmps71
  go_wp2_with fail
  refine Calls.mono (read_any s _) ?_
  rintro e w1 ⟨rfl, rfl⟩
  have b0 := Blk.new w 176 (rdCells ⟨s, 0⟩)
  have hbw0 : Below w.heap.size w (w.alloc (.cells (rdCells ⟨s, 0⟩) 176)) := (Below.refl _ _).alloc (Nat.le_refl _) _
  go_wp2_with fail
  refine Calls.mono (H1.out _ _ b0) ?_
  rintro e w1 ⟨rfl, b1, g1⟩
  have hbw1 := hbw0.grown g1 hbw0.size (fun k e => by cases e; exact Nat.le_refl _)
  clear b0 hbw0 g1
  go_wp2_with fail
  refine Calls.mono (H2.out _ _ b1) ?_
  rintro e w2 ⟨rfl, b2, g2⟩
  have hbw2 := hbw1.grown g2 hbw1.size (fun k e => by cases e; exact Nat.le_refl _)
  clear b1 hbw1 g2
  go_wp2_with fail
  refine Calls.mono (H3.out _ _ b2) ?_
  rintro e w3 ⟨rfl, b3, g3⟩
  have hbw3 := hbw2.grown g3 hbw2.size (fun k e => by cases e; exact Nat.le_refl _)
  clear b2 hbw2 g3
  go_wp2_with fail
  refine Calls.mono (H4.out _ _ b3) ?_
  rintro e w4 ⟨rfl, b4, g4⟩
  have hbw4 := hbw3.grown g4 hbw3.size (fun k e => by cases e; exact Nat.le_refl _)
  clear b3 hbw3 g4
  go_wp2_with fail
  refine Calls.mono (H5.out _ _ b4) ?_
  rintro e w5 ⟨rfl, b5, g5⟩
  have hbw5 := hbw4.grown g5 hbw4.size (fun k e => by cases e; exact Nat.le_refl _)
  clear b4 hbw4 g5
  go_wp2_with fail
  refine Calls.mono (H6.out _ _ b5) ?_
  rintro e w6 ⟨rfl, b6, g6⟩
  have hbw6 := hbw5.grown g6 hbw5.size (fun k e => by cases e; exact Nat.le_refl _)
  clear b5 hbw5 g6
  go_wp2_with fail
  refine Calls.mono (H7.out _ _ b6) ?_
  rintro e w7 ⟨rfl, b7, g7⟩
  have hbw7 := hbw6.grown g7 hbw6.size (fun k e => by cases e; exact Nat.le_refl _)
  clear b6 hbw6 g7
  go_wp2_with fail
  refine Calls.mono (H9.out _ _ b7) ?_
  rintro e w8 ⟨rfl, rfl⟩
  go_wp2_with fail
  refine Calls.mono (H8.out _ _ b7) ?_
  rintro e w9 ⟨rfl, b9, g9⟩
  have hbw9 := hbw7.grown g9 hbw7.size (fun k e => by cases e; exact Nat.le_refl _)
  clear b7 hbw7 g9
  have hT9 := hT.below hbw9 hT.1
  go_wp2_with fail
  refine Calls.mono (HC.out _ hT9) ?_
  rintro e w10 ⟨rfl, b10⟩
  have hb9 := b9.below b10 b9.lt
  have hbw10 := hbw9.trans (b10.mono hbw9.size)
  clear b9 b10 hbw9 hT9
  cases c with
  | false =>
    obtain ⟨rfl, rfl, rfl⟩ : k = 0 ∧ b = [] ∧ x = 3 := by
      rcases hcase with ⟨h, -⟩ | ⟨-, h⟩
      · cases h
      · exact h
    go_wp2
    refine bodyPost_ret (v := .tuple #[.int .u8 0, .string ⟨#[]⟩, .int .i64 3]) (by simp [results, Tryz.results71, go_sem]) rfl ⟨rfl, hbw10⟩
  | true =>
    go_wp2_with fail
    refine Calls.mono (end_any _ _ hb9) ?_
    rintro e w11 ⟨rfl, rfl⟩
    rcases hcase with ⟨-, h1, rfl, rfl, rfl, rfl, rfl, rfl⟩ | ⟨h1 | h1, rfl, rfl, rfl⟩
    · subst h1
      go_wp2_with (go_at_call 115; refine (HTr.out _).mono ?_; rintro e w12 ⟨rfl, h12⟩)
      have hb12 : Below w.heap.size w w12 := by rcases h12 with rfl | rfl; exact hbw10; exact hbw10.drew
      refine bodyPost_ret (v := .tuple #[.int .u8 k, .string ⟨b.toArray⟩, .int .i64 0]) (by simp [results, Tryz.results71, go_sem]) rfl ⟨rfl, hb12⟩
    · cases h1
    · have hne : ((nI : Int) != id) = true := by simpa using h1
      go_wp2
      refine bodyPost_ret (v := .tuple #[.int .u8 0, .string ⟨#[]⟩, .int .i64 3]) (by simp [results, Tryz.results71, go_sem]) rfl ⟨rfl, hbw10⟩
end Go.Proofs.YtlgbcogdogpihaaGreatDoor
namespace Go.Proofs.YtlgbcogdogpihaaGreatDoor
open Go.RowKit Go.Shelf
theorem trim_zeros (n : Nat) : Lib.trimB (List.replicate n 0) 0 = [] := by
  have h1 : ∀ n, Lib.trimLeftB (List.replicate n 0) 0 = [] := by
    intro n
    unfold Lib.trimLeftB
    induction n with
    | zero => rfl
    | succ n ih => rw [List.replicate_succ, List.dropWhile_cons]; simp
  unfold Lib.trimB Lib.trimRightB
  rw [List.reverse_replicate]
  have h2 := h1 n
  unfold Lib.trimLeftB at h2 ⊢
  rw [h2]; rfl
theorem open_page (id kind : Nat) (b : List UInt8) (hi : id < 4294967296) (hk : kind < 256) (hb : b.length ≤ 240) (w : World) (hT : HT w) :
    Calls Tryz.prog 71 #[.int .i64 id, .string ⟨(Pg.page id kind b).toArray⟩] w (OpenEnd kind b 0 w) := by
  have hcs := Cc.sum_lt (Pg.rest id kind b)
  refine open_core id (Pg.page id kind b) (Cp.be 4 (Cc.sum (Pg.rest id kind b))) (Cp.be 4 id) (Cp.be 1 kind) (Cp.be 1 0) (Cp.be 2 b.length) [0, 0, 0, 0] b (List.replicate (240 - b.length) 0) ?_ (Cp.be_length _ _) (Cp.be_length _ _) (Cp.be_length _ _) (Cp.be_length _ _) (Cp.be_length _ _) rfl (Cp.num_be_lt (by omega)) hb (by simp) true ?_ kind b 0 (.inl ⟨rfl, ?_, ?_, rfl, trim_zeros _, ?_, rfl, rfl⟩) w hT
  · rw [List.append_nil]; rfl
  · have e1 : (Pg.page id kind b).take 4 = Cp.be 4 (Cc.sum (Pg.rest id kind b)) := by unfold Pg.page; exact List.take_left' (Cp.be_length _ _)
    have e2 : (Pg.page id kind b).drop 4 = Pg.rest id kind b := by unfold Pg.page; exact List.drop_left' (Cp.be_length _ _)
    rw [e1, e2, Cp.num_be_lt (by omega)]; simp
  · rw [Cp.num_be_lt (by omega)]
  · rw [Cp.num_be_lt (by omega)]
  · rw [Cp.num_be_lt (by omega)]
def zeroL : List UInt8 := List.replicate 256 0
theorem open_zero (id : Int) (hi : id ≠ 0) (w : World) (hT : HT w) :
    Calls Tryz.prog 71 #[.int .i64 id, .string ⟨zeroL.toArray⟩] w (OpenEnd 0 [] 3 w) := by
  refine open_core id zeroL [0, 0, 0, 0] [0, 0, 0, 0] [0] [0] [0, 0] [0, 0, 0, 0] [] (List.replicate 240 0) ?_ rfl rfl rfl rfl rfl rfl rfl (by decide) (by rw [List.length_replicate]; rfl) _ rfl 0 [] 3 (.inr ⟨.inr ?_, rfl, rfl, rfl⟩) w hT
  · rw [List.append_nil]; rfl
  · intro h; exact hi h.symm
end Go.Proofs.YtlgbcogdogpihaaGreatDoor
