/- The walks of rootstockref02: Step, Sum. The walk of rootstockref05's Seal. The walk of rootstockref05's Open. -/
import Derived.Test.YtlgbcogdogpihaaGreatDoorQGh
import Derived.Test.YtlgbcogdogpihaaGreatDoorQGd
import Derived.Test.YtlgbcogdogpihaaGreatDoorQGi
import Derived.Test.YtlgbcogdogpihaaGreatDoorQRparse
namespace Cc
def bit1 (n : Nat) : Nat := if n % 2 = 1 then n / 2 ^^^ 3988292384 else n / 2
theorem bit1_odd {n : Nat} (h : n % 2 = 1) : bit1 n = n / 2 ^^^ 3988292384 := if_pos h
theorem bit1_even {n : Nat} (h : ¬ n % 2 = 1) : bit1 n = n / 2 := if_neg h
theorem bit1_lt {n : Nat} (h : n < 4294967296) : bit1 n < 4294967296 := by
  unfold bit1
  split
  · exact Nat.xor_lt_two_pow (n := 32) (by omega) (by decide)
  · omega
def bitsN : Nat → Nat → Nat
  | 0, n => n
  | k + 1, n => bit1 (bitsN k n)
theorem bitsN_lt (k : Nat) {n : Nat} (h : n < 4294967296) : bitsN k n < 4294967296 := by
  induction k with
  | zero => exact h
  | succ k ih => exact bit1_lt ih
def rstep (c b : Nat) : Nat := bitsN 8 (c ^^^ b)
theorem rstep_lt {c b : Nat} (hc : c < 4294967296) (hb : b < 256) : rstep c b < 4294967296 := bitsN_lt 8 (xor_lt hc hb)
def rrun (c : Nat) (l : List UInt8) : Nat := l.foldl (fun c b => rstep c b.toNat) c
theorem rrun_lt (l : List UInt8) : ∀ {c : Nat}, c < 4294967296 → rrun c l < 4294967296 := by
  induction l with
  | nil => intro c h; exact h
  | cons b l ih => intro c h; exact ih (rstep_lt h b.toNat_lt)
theorem rrun_append (c : Nat) (a b : List UInt8) : rrun c (a ++ b) = rrun (rrun c a) b := by unfold rrun; rw [List.foldl_append]
def rsum (l : List UInt8) : Nat := rrun 4294967295 l ^^^ 4294967295
theorem rsum_lt (l : List UInt8) : rsum l < 4294967296 := Nat.xor_lt_two_pow (n := 32) (rrun_lt l (by decide)) (by decide)
end Cc
namespace Go.Proofs.YtlgbcogdogpihaaGreatDoor
open Go.RowKit
set_option maxRecDepth 100000 in
set_option maxHeartbeats 1000000 in
theorem rstep_any (c b : Nat) (hc : c < 4294967296) (hb : b < 256) (w : World) :
    Calls Tryz.prog 140 #[.int .i64 c, .int .u8 b] w fun e w' => e = .returned (.int .i64 (Cc.rstep c b)) ∧ w = w' := by
  have e1 : IntKind.u32.wrap (c : Int) = c := IntWalk.u32_in _ (by omega)
  have e2 : IntKind.u32.wrap (b : Int) = b := IntWalk.u32_in _ (by omega)
  have e3 := u32_xor_nat c b hc (by omega)
  have h1 := Cc.xor_lt hc hb
  unfold Cc.rstep
  generalize c ^^^ b = x at *
  obtain ⟨R, hR⟩ : ∃ R, R = Cc.bitsN 8 x := ⟨_, rfl⟩
  rw [← hR]
  have HR := Lib.hid hR
  clear hR
  go_enter Tryz.func140, Tryz.ntmps140
  go_wp2
  go_loop [5, 6] (fun n i => ∃ j : Nat, j ≤ 8 ∧ i = .int .i64 j ∧ n = .int .u32 ((Cc.bitsN j x : Nat) : Int)) (fun _ i => 8 - (intOf i).toNat)
  case atStart => exact ⟨0, by omega, rfl, rfl⟩
  case round =>
    obtain ⟨j, hj, rfl, rfl⟩ := hrel
    have hy := Cc.bitsN_lt j h1
    have hs := Lib.hid (show Cc.bitsN (j + 1) x = Cc.bit1 (Cc.bitsN j x) from rfl)
    by_cases hlt : j < 8
    · generalize Cc.bitsN j x = y at *
      by_cases ho : y % 2 = 1
      · have hq : ((y : Int) % 2 == 1) = true := by rw [beq_iff_eq]; omega
        have hx : bits .xor .u32 ((y : Int) / 2) 3988292384 = ((y / 2 ^^^ 3988292384 : Nat) : Int) := u32_xor_nat (y / 2) 3988292384 (by omega) (by decide)
        have hb1 := Lib.hid (Cc.bit1_odd ho)
        clear ho
        go_wp2
        exact ⟨⟨j + 1, by omega, by go_num, by rw [hs.out, hb1.out]⟩, by simp [intOf]; omega⟩
      · have hq : ((y : Int) % 2 == 1) = false := by rw [beq_eq_false_iff_ne]; omega
        have hb1 := Lib.hid (Cc.bit1_even ho)
        clear ho
        go_wp2
        exact ⟨⟨j + 1, by omega, by go_num, by rw [hs.out, hb1.out]; rfl⟩, by simp [intOf]; omega⟩
    · obtain rfl : j = 8 := by omega
      rw [← HR.out] at hy ⊢
      clear hs
      have hw : IntKind.i64.wrap (R : Int) = R := IntWalk.i64_in _ (by omega)
      go_wp2
      go_ret
      exact ⟨rfl, rfl⟩
theorem rrun_take_succ (c : Nat) (l : List UInt8) (j : Nat) (hj : j < l.length) : Cc.rrun c (l.take (j + 1)) = Cc.rstep (Cc.rrun c (l.take j)) l[j].toNat := by
  rw [List.take_succ_eq_append_getElem hj, Cc.rrun_append]; rfl
theorem rsum_bits (l : List UInt8) : bits .xor .i64 ((Cc.rrun 4294967295 l : Nat) : Int) 4294967295 = ((Cc.rsum l : Nat) : Int) :=
  i64_xor_nat (Cc.rrun 4294967295 l) 4294967295 (by have := Cc.rrun_lt l (c := 4294967295) (by decide); omega) (by decide)
set_option maxRecDepth 100000 in
set_option maxHeartbeats 1000000 in
theorem rsum_any (l : List UInt8) (hl : l.length ≤ 1000000) (w : World) :
    Calls Tryz.prog 101 #[.string ⟨l.toArray⟩] w fun e w' => e = .returned (.int .i64 (Cc.rsum l)) ∧ w = w' := by
  have hsum := rsum_bits l
  obtain ⟨R, hR⟩ : ∃ R, R = Cc.rsum l := ⟨_, rfl⟩
  rw [← hR] at hsum ⊢
  clear hR
  have HSUM := Lib.hid hsum
  clear hsum
  go_enter Tryz.func101, Tryz.ntmps101
  go_wp2
  go_loop [3, 4] (fun v i => ∃ j : Nat, j ≤ l.length ∧ i = .int .i64 j ∧ v = .int .i64 (Cc.rrun 4294967295 (l.take j) : Nat)) (fun _ i => l.length - (intOf i).toNat)
  case atStart => exact ⟨0, by omega, rfl, rfl⟩
  case round =>
    obtain ⟨j, hj, rfl, rfl⟩ := hrel
    by_cases hlt : j < l.length
    · have hnx := Lib.hid (rrun_take_succ 4294967295 l j hlt)
      have hrl := Cc.rrun_lt (l.take j) (c := 4294967295) (by decide)
      have hb8 := l[j].toNat_lt
      have hst := fun W => rstep_any (Cc.rrun 4294967295 (l.take j)) l[j].toNat hrl hb8 W
      generalize Cc.rrun 4294967295 (l.take j) = r at *
      go_wp2_with (go_at_call 140; refine (hst _).mono ?_; rintro e w3 ⟨rfl, rfl⟩)
      exact ⟨⟨j + 1, by omega, by go_num, by rw [hnx.out]⟩, by simp [intOf]; omega⟩
    · obtain rfl : j = l.length := by omega
      rw [List.take_of_length_le (Nat.le_refl _)]
      have hsum := HSUM.out
      generalize Cc.rrun 4294967295 l = r at *
      go_wp2
      go_ret
      exact ⟨rfl, rfl⟩
end Go.Proofs.YtlgbcogdogpihaaGreatDoor
namespace Pg
open Cp
/-- a page's bytes, as the reference makes them -/
def rpage (id kind : Nat) (b : List UInt8) : List UInt8 := be 4 (Cc.rsum (rest id kind b)) ++ rest id kind b
theorem rpage_length (id kind : Nat) (b : List UInt8) (h : b.length ≤ 240) : (rpage id kind b).length = 256 := by
  unfold rpage; rw [List.length_append, be_length, rest_length id kind b h]
end Pg
namespace Go.Proofs.YtlgbcogdogpihaaGreatDoor
open Go.RowKit
section
variable {P : Program}
theorem str_of_new2 {src dst e : TypeId} (W : World) (x y : Int) (te : TypeId) (c : Nat) (hs : P.underlying src = some (.slice e)) (he : P.underlying e = some (.int .u8)) (hd : P.underlying dst = some .string) :
    (convert src dst (.slice (some ⟨W.heap.size, 0, none⟩) 2 c)).run P (W.alloc (.cells #[.int .u8 x, .int .u8 y] te)) = .ok (.string ⟨[UInt8.ofNat x.toNat, UInt8.ofNat y.toNat].toArray⟩) (W.alloc (.cells #[.int .u8 x, .int .u8 y] te)) := by
  rw [run_convert_bytes_string _ src dst e _ 2 c hs he hd]
  have hl := run_loadCells_list (P := P) (W.alloc (.cells #[.int .u8 x, .int .u8 y] te)) ⟨W.heap.size, 0, none⟩ ([x, y].map (Value.int .u8)) (fun j v hj => by
    have : j = 0 ∨ j = 1 := by
      have := (List.getElem?_eq_some_iff.1 hj).1
      simp at this; omega
    rcases this with rfl | rfl
    · simp at hj
      subst hj
      rw [Addr.add_lit]
      exact (Blk.new W te #[.int .u8 x, .int .u8 y]).cell 0
    · simp at hj
      subst hj
      rw [Addr.add_lit]
      exact (Blk.new W te #[.int .u8 x, .int .u8 y]).cell 1)
  rw [run_bytesToString _ _ 2 c [x, y] hl]
  rfl
end
def RSealEnd (s : List UInt8) (w : World) (e : Ending) (w' : World) : Prop := e = .returned (.tuple #[.string ⟨s.toArray⟩, .bool true]) ∧ Below w.heap.size w w'
set_option maxRecDepth 100000 in
set_option maxHeartbeats 1000000 in
theorem rseal_any (id kind : Nat) (b : List UInt8) (hi : id < 4294967296) (hk : kind < 256) (hb : b.length ≤ 240) (w : World) :
    Calls Tryz.prog 56 #[.int .i64 id, .int .u8 kind, .string ⟨b.toArray⟩] w (RSealEnd (Pg.rpage id kind b) w) := by
  obtain ⟨O, hO⟩ : ∃ O, O = Pg.rpage id kind b := ⟨_, rfl⟩
  rw [← hO]
  have hrl := Pg.rest_length id kind b hb
  have hcs := Cc.rsum_lt (Pg.rest id kind b)
  unfold Pg.rpage at hO
  have hf : ∀ n : Nat, n < 4294967296 → Cp.fits 4 (n : Int) = true := fun n h => by unfold Cp.fits; simp; omega
  have hP4 := fun W => rput4_pos id W (by omega)
  rw [hf id hi] at hP4
  have hP2 := fun W => rput2_pos b.length W (by omega)
  rw [show Cp.fits 2 (b.length : Int) = true by unfold Cp.fits; simp; omega] at hP2
  have hS := fun W => rsum_any (Pg.rest id kind b) (by omega) W
  have hC := fun W => rput4_pos (Cc.rsum (Pg.rest id kind b)) W (by omega)
  rw [hf _ hcs] at hC
  have hcv := fun (W : World) => str_of_new2 (P := Tryz.prog) (src := 57) (dst := 9) W (kind : Int) 0 5 2 Tryz.underlying57 Tryz.underlying5 Tryz.underlying9
  have hpad : ∀ j : Nat, Cp.be 4 id ++ [UInt8.ofNat kind, UInt8.ofNat (0 : Int).toNat] ++ Cp.be 2 b.length ++ [0, 0, 0, 0] ++ b ++ List.replicate (240 - b.length) 0 = Pg.rest id kind b := fun j => by
    unfold Pg.rest
    have e1 : Cp.be 1 kind = [UInt8.ofNat kind] := by simp [Cp.be, Nat.mod_eq_of_lt hk]
    have e0 : Cp.be 1 0 = [UInt8.ofNat (0 : Int).toNat] := by decide
    rw [e1, e0]
    simp
  have hHead : (Cp.be 4 id ++ [UInt8.ofNat kind, UInt8.ofNat (0 : Int).toNat] ++ Cp.be 2 b.length ++ [0, 0, 0, 0] ++ b).length = 12 + b.length := by
    simp only [List.length_append, Cp.be_length, List.length_cons, List.length_nil]
  rw [Int.toNat_natCast] at hcv
  have hA1 : ∀ x : List UInt8, (⟨(Cp.be 4 id).toArray⟩ : ByteArray) ++ ⟨x.toArray⟩ = ⟨(Cp.be 4 id ++ x).toArray⟩ := fun x => str_append _ _
  have hPAD := Lib.hid (hpad 0)
  have hIl : (Cp.be 4 id).length ≤ 4 := by rw [Cp.be_length]; omega
  have hLl : (Cp.be 2 b.length).length ≤ 2 := by rw [Cp.be_length]; omega
  have hKl : [UInt8.ofNat kind, UInt8.ofNat (0 : Int).toNat].length ≤ 2 := by simp
  have hCl : (Cp.be 4 (Cc.rsum (Pg.rest id kind b))).length ≤ 4 := by rw [Cp.be_length]; omega
  generalize Cc.rsum (Pg.rest id kind b) = S at *
  generalize Pg.rest id kind b = R at *
  generalize hcc : Cp.be 4 S = C at *
  generalize Cp.be 4 id = I at *
  generalize Cp.be 2 b.length = L at *
  generalize [UInt8.ofNat kind, UInt8.ofNat (0 : Int).toNat] = K at *
  obtain ⟨H, hH⟩ : ∃ H, H = I ++ K ++ L ++ [0, 0, 0, 0] ++ b := ⟨_, rfl⟩
  rw [← hH] at hHead hPAD
  have hcat : (⟨I.toArray⟩ : ByteArray) ++ ⟨K.toArray⟩ ++ ⟨L.toArray⟩ ++ ⟨#[0, 0, 0, 0]⟩ ++ ⟨b.toArray⟩ = ⟨H.toArray⟩ := by
    rw [hH, str_append I K, str_append _ L]; exact (congrArg (· ++ _) (str_append _ [0, 0, 0, 0])).trans (str_append _ b)
  have HO := Lib.hid hO
  have HP4 := Lib.hid hP4
  have HP2 := Lib.hid hP2
  have HS := Lib.hid hS
  have HC := Lib.hid hC
  have HL := Lib.hid hHead
  have HCAT := Lib.hid hcat
  clear hO hP4 hP2 hS hC hcc hpad hHead hH hA1 hcat
  have hd : decide ((240 : Int) < (b.length : Int)) = false := by simp; omega
  go_enter Tryz.func56, Tryz.ntmps56
  go_wp2_with fail
  refine Calls.mono (HP4.out _) ?_
  rintro e w1 ⟨rfl, b1⟩
  go_wp2_with fail
  refine Calls.mono (HP2.out _) ?_
  rintro e w2 ⟨rfl, b2⟩
  have hbw2 := b1.trans (b2.mono b1.size)
  have hcv2 := hcv w2
  clear hcv
  have HRL := Lib.hid (show R.length ≤ 1000000 by omega)
  clear hf hrl
  go_wp2
  have hbw3 := hbw2.alloc hbw2.size (.cells #[.int .u8 (kind : Int), .int .u8 0] 5)
  have hrl := HRL.out
  go_loop [12] (fun v => ∃ j : Nat, j ≤ 240 - b.length ∧ v = .string ⟨(H ++ List.replicate j 0).toArray⟩) (fun v => match v with | .string s => 252 - s.size | _ => 0)
  case atStart => exact ⟨0, by omega, by rw [HCAT.out, List.replicate_zero, List.append_nil]⟩
  case round =>
    obtain ⟨j, hj, rfl⟩ := hrel
    have hl : (H ++ List.replicate j (0 : UInt8)).length = 12 + b.length + j := by rw [List.length_append, HL.out, List.length_replicate]
    have hsn : H ++ List.replicate (j + 1) (0 : UInt8) = (H ++ List.replicate j 0) ++ [0] := by rw [List.append_assoc, ← List.replicate_succ']
    have hfin := Lib.hid (show j = 240 - b.length → H ++ List.replicate j (0 : UInt8) = R from fun e => by rw [e]; exact hPAD.out)
    by_cases hlt : j < 240 - b.length
    · have hl1 : (H ++ List.replicate j (0 : UInt8)).length < 252 := by omega
      have HSN := Lib.hid hsn
      clear hl hsn hfin
      generalize H ++ List.replicate j (0 : UInt8) = X at *
      go_wp2
      refine ⟨⟨j + 1, by omega, ?_⟩, ?_⟩
      · rw [HSN.out]; exact congrArg Value.string (str_append X [0])
      · simp [ByteArray.size]; omega
    · obtain rfl : j = 240 - b.length := by omega
      have hl1 : 252 ≤ (H ++ List.replicate (240 - b.length) (0 : UInt8)).length := by omega
      have hR := hfin.out rfl
      clear hl hsn hfin
      rw [hR] at hl1 ⊢
      clear hR
      go_wp2_with fail
      refine Calls.mono (HS.out _) ?_
      rintro e w4 ⟨rfl, rfl⟩
      go_wp2_with fail
      refine Calls.mono (HC.out _) ?_
      rintro e w5 ⟨rfl, b5⟩
      have hx : (⟨C.toArray⟩ : ByteArray) ++ ⟨R.toArray⟩ = ⟨O.toArray⟩ := by rw [HO.out]; exact str_append C R
      go_wp2
      go_ret2
      exact ⟨rfl, hbw3.trans (b5.mono hbw3.size)⟩
end Go.Proofs.YtlgbcogdogpihaaGreatDoor
namespace Go.Proofs.YtlgbcogdogpihaaGreatDoor
open Go.RowKit
/-- what the reference's Open tells of bytes -/
def ROpenEnd (o : Option (Nat × List UInt8)) (w : World) (e : Ending) (w' : World) : Prop := e = .returned (match o with
  | some (k, b) => .tuple #[.int .u8 (k : Nat), .string ⟨b.toArray⟩, .bool true]
  | none => .tuple #[.int .u8 0, .string ⟨#[]⟩, .bool false]) ∧ Below w.heap.size w w'
set_option maxRecDepth 100000 in
set_option maxHeartbeats 1000000 in
theorem ropen_core (id : Nat) (s : List UInt8) (n k : Nat) (b : List UInt8) (hi : id < 4294967296) (hl : s.length = 256) (hn : Cp.num ((s.drop 10).take 2) = n) (hn2 : n ≤ 240) (hk : s[8].toNat = k) (hb : (s.drop 16).take n = b) (w : World) :
    Calls Tryz.prog 93 #[.int .i64 id, .string ⟨s.toArray⟩] w (ROpenEnd (if Pg.rpage id k b = s then some (k, b) else none) w) := by
  have hk8 : k < 256 := by rw [← hk]; exact s[8].toNat_lt
  have hbl : b.length ≤ 240 := by rw [← hb, List.length_take]; omega
  have hca := fun W => rint_any ((s.drop 10).take 2) W (by simp; omega)
  rw [hn] at hca
  have e1 := fun W => slice_part Tryz.underlying9 s 10 12 10 12 rfl rfl (by omega) (by omega) W
  have e2 := fun W => slice_part Tryz.underlying9 s 16 (16 + n) 16 (16 + (n : Int)) rfl (by omega) (by omega) (by omega) W
  rw [show 16 + n - 16 = n by omega, hb] at e2
  rw [show 12 - 10 = 2 by omega] at e1
  have hS := fun W => rseal_any id k b hi hk8 hbl W
  unfold RSealEnd at hS
  have hidx : (⟨s.toArray⟩ : ByteArray)[8]'(show 8 < s.toArray.size by simp; omega) = s[8] := rfl
  obtain ⟨T, hT⟩ : ∃ T, T = Pg.rpage id k b := ⟨_, rfl⟩
  rw [← hT] at hS ⊢
  have HCA := Lib.hid hca
  have HE1 := Lib.hid e1
  have HE2 := Lib.hid e2
  have HS := Lib.hid hS
  have hTl : T.length = 256 := by rw [hT]; exact Pg.rpage_length id k b hbl
  have hTl2 : T.length ≤ 1000 := by omega
  clear hca e1 e2 hS hT hb hn hTl
  have hneq : ((s.length : Int) != 256) = false := by rw [hl]; rfl
  have hll : s.length ≤ 1000 := by omega
  have h8 : 8 < s.length := by omega
  by_cases hc : T = s
  · rw [if_pos hc]
    subst hc
    go_enter Tryz.func93, Tryz.ntmps93
    have e1 := HE1.out
    go_wp2_with fail
    refine Calls.mono (HCA.out _) ?_
    rintro e w1 ⟨rfl, rfl⟩
    clear e1
    have e2 := HE2.out w
    go_wp2_with fail
    refine Calls.mono (HS.out _) ?_
    rintro e w2 ⟨rfl, b2⟩
    go_wp2
    go_ret3
    exact ⟨rfl, b2⟩
  · rw [if_neg hc]
    have hne : (T == s) = false := by simpa using hc
    go_enter Tryz.func93, Tryz.ntmps93
    have e1 := HE1.out
    go_wp2_with fail
    refine Calls.mono (HCA.out _) ?_
    rintro e w1 ⟨rfl, rfl⟩
    clear e1
    have e2 := HE2.out w
    go_wp2_with fail
    refine Calls.mono (HS.out _) ?_
    rintro e w2 ⟨rfl, b2⟩
    go_wp2
    go_ret3
    exact ⟨rfl, b2⟩
theorem take_of_len {a b : List UInt8} {n : Nat} (h : a.length = n) : (a ++ b).take n = a := by subst h; exact List.take_left
theorem drop_of_len {a b : List UInt8} {n : Nat} (h : a.length = n) : (a ++ b).drop n = b := by subst h; exact List.drop_left
theorem num_be2 (n : Nat) (h : n < 65536) : Cp.num (Cp.be 2 n) = n := by
  have := Cp.num_be 2 n
  rw [this]
  exact Nat.mod_eq_of_lt (by omega)
theorem ropen_page (id k : Nat) (b : List UInt8) (hi : id < 4294967296) (hk : k < 256) (hb : b.length ≤ 240) (w : World) :
    Calls Tryz.prog 93 #[.int .i64 id, .string ⟨(Pg.rpage id k b).toArray⟩] w (ROpenEnd (some (k, b)) w) := by
  have hl := Pg.rpage_length id k b hb
  have h1 : (Cp.be 4 (Cc.rsum (Pg.rest id k b)) ++ (Cp.be 4 id ++ (Cp.be 1 k ++ Cp.be 1 0))).length = 10 := by simp [Cp.be_length]
  have h2 : (Cp.be 4 (Cc.rsum (Pg.rest id k b)) ++ Cp.be 4 id).length = 8 := by simp [Cp.be_length]
  have e1 : Pg.rpage id k b = (Cp.be 4 (Cc.rsum (Pg.rest id k b)) ++ (Cp.be 4 id ++ (Cp.be 1 k ++ Cp.be 1 0))) ++ (Cp.be 2 b.length ++ ([0, 0, 0, 0] ++ (b ++ List.replicate (240 - b.length) 0))) := by
    unfold Pg.rpage Pg.rest; simp only [List.append_assoc]
  have e2 : Pg.rpage id k b = (Cp.be 4 (Cc.rsum (Pg.rest id k b)) ++ Cp.be 4 id) ++ (UInt8.ofNat k :: (Cp.be 1 0 ++ (Cp.be 2 b.length ++ ([0, 0, 0, 0] ++ (b ++ List.replicate (240 - b.length) 0))))) := by
    unfold Pg.rpage Pg.rest
    have e : Cp.be 1 k = [UInt8.ofNat k] := by simp [Cp.be, Nat.mod_eq_of_lt hk]
    rw [e]; simp only [List.append_assoc, List.singleton_append]
  have e3 : (Pg.rpage id k b).drop 10 = Cp.be 2 b.length ++ ([0, 0, 0, 0] ++ (b ++ List.replicate (240 - b.length) 0)) := by
    rw [e1, ← h1, List.drop_left]
  have e4 : (Pg.rpage id k b).drop 16 = b ++ List.replicate (240 - b.length) 0 := by
    have : (Pg.rpage id k b).drop 16 = ((Pg.rpage id k b).drop 10).drop 6 := by rw [List.drop_drop]
    rw [this, e3, ← List.append_assoc]
    have h6 : (Cp.be 2 b.length ++ [0, 0, 0, 0]).length = 6 := by simp [Cp.be_length]
    rw [← h6, List.drop_left]
  have g8 : (Pg.rpage id k b)[8]? = some (UInt8.ofNat k) := by
    rw [e2, ← h2, List.getElem?_append_right (Nat.le_refl _), Nat.sub_self]; rfl
  have g8' : ((Pg.rpage id k b)[8]'(by omega)).toNat = k := by
    have := List.getElem?_eq_some_iff.1 g8
    rw [this.2, UInt8.toNat_ofNat']; omega
  have h := ropen_core id (Pg.rpage id k b) b.length k b hi hl (by rw [e3, take_of_len (Cp.be_length 2 _)]; exact num_be2 _ (by omega)) hb g8' (by rw [e4, List.take_left]) w
  rw [if_pos rfl] at h
  exact h
theorem ropen_zero (id : Nat) (h0 : 0 < id) (hi : id < 4294967296) (w : World) :
    Calls Tryz.prog 93 #[.int .i64 id, .string ⟨zeroL.toArray⟩] w (ROpenEnd none w) := by
  have hl : zeroL.length = 256 := List.length_replicate
  have h8 : (zeroL[8]'(by omega)).toNat = 0 := by
    have : zeroL[8]'(by omega) = 0 := List.getElem_replicate ..
    rw [this]; rfl
  have h := ropen_core id zeroL 0 0 [] hi hl (by decide +kernel) (by decide) h8 rfl w
  rw [if_neg] at h
  · exact h
  intro e
  have e2 : (Pg.rpage id 0 []).drop 4 = Pg.rest id 0 [] := by
    unfold Pg.rpage
    exact drop_of_len (Cp.be_length 4 _)
  have e3 : (Pg.rest id 0 []).take 4 = Cp.be 4 id := by
    unfold Pg.rest
    exact take_of_len (Cp.be_length 4 _)
  rw [e] at e2
  rw [← e2] at e3
  have e5 := congrArg Cp.num e3
  rw [Cp.num_be, Nat.mod_eq_of_lt (by omega)] at e5
  have : Cp.num ((zeroL.drop 4).take 4) = 0 := by decide +kernel
  omega
end Go.Proofs.YtlgbcogdogpihaaGreatDoor
