/- Plain: numbers as bytes, a chain page. The walks of package codec: numbers as bytes, a reader of bytes. The walks of codec's Reader. -/
import Derived.Test.YtlgbcogdogpihaaGreatDoorQGa
namespace Cp
/-- a number in k bytes, the great ones first; what does not fit is left out -/
def be : Nat → Nat → List UInt8
  | 0, _ => []
  | k + 1, n => be k (n / 256) ++ [UInt8.ofNat (n % 256)]
theorem be_length (k n : Nat) : (be k n).length = k := by
  induction k generalizing n with
  | zero => rfl
  | succ k ih => simp [be, ih]
/-- the number of bytes -/
def num (l : List UInt8) : Nat := l.foldl (fun n c => n * 256 + c.toNat) 0
theorem num_from (l : List UInt8) (n : Nat) : l.foldl (fun n c => n * 256 + c.toNat) n = n * 256 ^ l.length + num l := by
  induction l generalizing n with
  | nil => simp [num]
  | cons c l ih =>
    unfold num
    rw [List.foldl_cons, List.foldl_cons, ih, ih (0 * 256 + c.toNat), List.length_cons, Nat.pow_succ]
    rw [Nat.add_mul, Nat.zero_mul, Nat.zero_add, Nat.add_assoc, Nat.mul_assoc, Nat.mul_comm 256]
theorem num_append (a b : List UInt8) : num (a ++ b) = num a * 256 ^ b.length + num b := by
  show (a ++ b).foldl _ 0 = _
  rw [List.foldl_append, num_from]; rfl
theorem num_snoc (a : List UInt8) (c : UInt8) : num (a ++ [c]) = num a * 256 + c.toNat := by
  rw [num_append]; simp [num]
theorem num_lt (l : List UInt8) : num l < 256 ^ l.length := by
  have : ∀ (k : Nat) (l : List UInt8), l.length = k → num l < 256 ^ k := by
    intro k
    induction k with
    | zero => intro l h; have : l = [] := List.eq_nil_of_length_eq_zero h; subst this; simp [num]
    | succ k ih =>
      intro l h
      have hne : l ≠ [] := by rintro rfl; simp at h
      rw [← List.dropLast_concat_getLast hne, num_snoc]
      have h1 := ih l.dropLast (by simp [h])
      have h2 := (l.getLast hne).toNat_lt
      rw [Nat.pow_succ]
      omega
  exact this _ l rfl
theorem num_be (k n : Nat) : num (be k n) = n % 256 ^ k := by
  induction k generalizing n with
  | zero => simp [be, num, Nat.mod_one]
  | succ k ih =>
    rw [be, num_snoc, ih]
    have : (UInt8.ofNat (n % 256)).toNat = n % 256 := by simp
    rw [this, Nat.pow_succ, Nat.mul_comm (256 ^ k) 256, Nat.mod_mul]
    omega
theorem num_be_lt {k n : Nat} (h : n < 256 ^ k) : num (be k n) = n := by rw [num_be, Nat.mod_eq_of_lt h]
theorem be_num (k : Nat) : ∀ (l : List UInt8), l.length = k → be k (num l) = l := by
  induction k with
  | zero => intro l h; have : l = [] := List.eq_nil_of_length_eq_zero h; subst this; rfl
  | succ k ih =>
    intro l h
    have hne : l ≠ [] := by rintro rfl; simp at h
    have e := List.dropLast_concat_getLast hne
    rw [← e, num_snoc, be]
    have h2 := (l.getLast hne).toNat_lt
    rw [show (num l.dropLast * 256 + (l.getLast hne).toNat) / 256 = num l.dropLast by omega, show (num l.dropLast * 256 + (l.getLast hne).toNat) % 256 = (l.getLast hne).toNat by omega, ih _ (by simp [h])]
    simp
/-- byte j from the great end -/
theorem be_getElem? (k n j : Nat) (h : j < k) : (be k n)[j]? = some (UInt8.ofNat (n / 256 ^ (k - 1 - j) % 256)) := by
  induction k generalizing n j with
  | zero => omega
  | succ k ih =>
    rw [be]
    by_cases hj : j < k
    · rw [List.getElem?_append_left (by rw [be_length]; exact hj), ih _ _ hj]
      have e : k + 1 - 1 - j = (k - 1 - j) + 1 := by omega
      rw [e, Nat.pow_succ, Nat.mul_comm (256 ^ _), Nat.div_div_eq_div_mul]
    · obtain rfl : j = k := by omega
      rw [List.getElem?_append_right (by rw [be_length]; omega), be_length]
      simp
/-- the first j bytes, with one more -/
theorem be_take_succ (k n j : Nat) (h : j < k) : (be k n).take (j + 1) = (be k n).take j ++ [UInt8.ofNat (n / 256 ^ (k - 1 - j) % 256)] := by
  rw [List.take_add_one, be_getElem? k n j h]; rfl

def sized (n : Int) : Bool := decide (n = 1) || decide (n = 2) || decide (n = 4)
/-- may n stand in so many bytes? -/
def fits (k : Nat) (n : Int) : Bool := decide (0 ≤ n) && decide (n < (256 ^ k : Nat))

/-- the answer of Put: its text, its error -/
def putS (k : Nat) (n : Int) : List UInt8 := if fits k n then be k n.toNat else []
def putE (k : Nat) (n : Int) : Int := if fits k n then 0 else 1

/-! the reader: what is left, the first error -/
structure Rd where
  rest : List UInt8
  err : Int
def Rd.fail (r : Rd) (e : Int) : Rd := if r.err = 0 then { r with err := e } else r
def Rd.bytes (r : Rd) (n : Int) : List UInt8 × Rd :=
  let r1 := if n < 0 then r.fail 1 else if (r.rest.length : Int) < n then r.fail 10 else r
  if r1.err = 0 then (r1.rest.take n.toNat, { r1 with rest := r1.rest.drop n.toNat }) else ([], r1)
def Rd.int (r : Rd) (k : Nat) : Nat × Rd := (num (r.bytes k).1, (r.bytes k).2)

/-! a chain's page -/
abbrev Run := Int × Int
def okRun (r : Run) : Bool := fits 4 r.1 && fits 4 r.2 && decide (r.1 ≤ r.2)
def runBytes (r : Run) : List UInt8 := be 4 r.1.toNat ++ be 4 r.2.toNat
/-- the document's -/
def body (next : Int) (l : List Run) : Option (List UInt8) :=
  if fits 4 next && decide (l.length ≤ 29) && l.all okRun then some (be 4 next.toNat ++ be 2 l.length ++ l.flatMap runBytes) else none
theorem runBytes_length (r : Run) : (runBytes r).length = 8 := by simp [runBytes, be_length]
theorem flat_length (l : List Run) : (l.flatMap runBytes).length = 8 * l.length := by
  induction l with
  | nil => rfl
  | cons r l ih => rw [List.flatMap_cons, List.length_append, ih, runBytes_length, List.length_cons]; omega
theorem body_length {next : Int} {l : List Run} {s : List UInt8} (h : body next l = some s) : s.length = 6 + 8 * l.length := by
  unfold body at h
  split at h
  · injection h with h; subst h; simp only [List.length_append, be_length, flat_length]
  · cases h

/-- the runs that stand in bytes -/
def runsOf : Nat → List UInt8 → List Run
  | 0, _ => []
  | k + 1, s => ((num (s.take 4) : Int), (num ((s.drop 4).take 4) : Int)) :: runsOf k (s.drop 8)
theorem runsOf_length (k : Nat) (s : List UInt8) : (runsOf k s).length = k := by
  induction k generalizing s with
  | zero => rfl
  | succ k ih => simp [runsOf, ih]
/-- the document's Parse -/
def parse (s : List UInt8) : Option (Int × List Run) :=
  if s.length < 6 then none
  else if 29 < num ((s.drop 4).take 2) ∨ s.length ≠ 6 + 8 * num ((s.drop 4).take 2) then none
  else if body (num (s.take 4)) (runsOf (num ((s.drop 4).take 2)) (s.drop 6)) = some s then some ((num (s.take 4) : Int), runsOf (num ((s.drop 4).take 2)) (s.drop 6))
  else none

/-! the program's Parse -/
def Rd.two (r : Rd) : Run × Rd := (((r.int 4).1, ((r.int 4).2.int 4).1), ((r.int 4).2.int 4).2)
def readRuns : Nat → Rd → List Run × Rd
  | 0, r => ([], r)
  | k + 1, r => (r.two.1 :: (readRuns k r.two.2).1, (readRuns k r.two.2).2)
def prog (s : List UInt8) : Option (Int × List Run) :=
  let r0 : Rd := ⟨s, 0⟩
  let next := (r0.int 4).1
  let n := ((r0.int 4).2.int 2).1
  let l := (readRuns (min n 29) ((r0.int 4).2.int 2).2).1
  if body next l = some s then some ((next : Int), l) else none

theorem bytes_ok {r : Rd} {k : Nat} (he : r.err = 0) (hk : k ≤ r.rest.length) : r.bytes k = (r.rest.take k, ⟨r.rest.drop k, 0⟩) := by
  have h1 : ¬ ((k : Int) < 0) := by omega
  have h2 : ¬ ((r.rest.length : Int) < (k : Int)) := by omega
  simp only [Rd.bytes, if_neg h1, if_neg h2, he, if_true, Int.toNat_natCast]
theorem int_ok {r : Rd} {k : Nat} (he : r.err = 0) (hk : k ≤ r.rest.length) : r.int k = (num (r.rest.take k), ⟨r.rest.drop k, 0⟩) := by
  unfold Rd.int; rw [bytes_ok he hk]
theorem readRuns_length (k : Nat) (r : Rd) : (readRuns k r).1.length = k := by
  induction k generalizing r with
  | zero => rfl
  | succ k ih => simp [readRuns, ih]
theorem readRuns_ok (k : Nat) : ∀ (s : List UInt8), 8 * k ≤ s.length → (readRuns k ⟨s, 0⟩).1 = runsOf k s := by
  induction k with
  | zero => intro s _; rfl
  | succ k ih =>
    intro s h
    have e1 : (Rd.mk s 0).int 4 = (num (s.take 4), ⟨s.drop 4, 0⟩) := int_ok rfl (by show 4 ≤ s.length; omega)
    have e2 : (Rd.mk (s.drop 4) 0).int 4 = (num ((s.drop 4).take 4), ⟨(s.drop 4).drop 4, 0⟩) := int_ok rfl (by show 4 ≤ (s.drop 4).length; simp; omega)
    have e3 : (Rd.mk s 0).two = (((num (s.take 4) : Int), (num ((s.drop 4).take 4) : Int)), ⟨s.drop 8, 0⟩) := by
      unfold Rd.two; rw [e1]; simp only; rw [e2]; simp
    rw [readRuns, runsOf, e3]
    simp only
    rw [ih _ (by simp; omega)]
theorem head2 {a b : Nat} {f s : List UInt8} (h : be 4 a ++ be 2 b ++ f = s) : (s.drop 4).take 2 = be 2 b := by
  rw [← h, List.append_assoc, List.drop_append_of_le_length (by rw [be_length]; omega), List.drop_of_length_le (by rw [be_length]; omega), List.nil_append, List.take_append_of_le_length (by rw [be_length]; omega), List.take_of_length_le (by rw [be_length]; omega)]
theorem body_head2 {next : Int} {l : List Run} {s : List UInt8} (h : body next l = some s) : (s.drop 4).take 2 = be 2 l.length := by
  unfold body at h
  split at h
  · injection h with h; exact head2 h
  · cases h
theorem prog_eq (s : List UInt8) : prog s = parse s := by
  unfold prog parse
  by_cases h6 : s.length < 6
  · rw [if_pos h6]
    simp only
    rw [if_neg]
    intro hb
    have := body_length hb
    omega
  · rw [if_neg h6]
    have e1 : (Rd.mk s 0).int 4 = (num (s.take 4), ⟨s.drop 4, 0⟩) := int_ok rfl (by show 4 ≤ s.length; omega)
    have e2 : (Rd.mk (s.drop 4) 0).int 2 = (num ((s.drop 4).take 2), ⟨s.drop 6, 0⟩) := by
      have := int_ok (r := Rd.mk (s.drop 4) 0) (k := 2) rfl (by show 2 ≤ (s.drop 4).length; simp; omega)
      simpa using this
    simp only [e1, e2]
    by_cases hbad : 29 < num ((s.drop 4).take 2) ∨ s.length ≠ 6 + 8 * num ((s.drop 4).take 2)
    · rw [if_pos hbad, if_neg]
      intro hb
      have hl := body_length hb
      rw [readRuns_length] at hl
      -- bytes 4 and 5 are the number of runs
      have hn : num ((s.drop 4).take 2) = min (num ((s.drop 4).take 2)) 29 := by
        have h2 := body_head2 hb
        rw [readRuns_length] at h2
        have h3 : min (num ((s.drop 4).take 2)) 29 < 256 ^ 2 := by have : min (num ((s.drop 4).take 2)) 29 ≤ 29 := Nat.min_le_right _ _; omega
        exact (congrArg num h2).trans (num_be_lt h3)
      rcases hbad with h | h <;> omega
    · rw [if_neg hbad]
      have hk : num ((s.drop 4).take 2) ≤ 29 ∧ s.length = 6 + 8 * num ((s.drop 4).take 2) := by omega
      rw [Nat.min_eq_left hk.1, readRuns_ok _ _ (by simp; omega)]

/-- what is read of a body is what was written -/
theorem runsOf_flat (l : List Run) (h : l.all okRun = true) : runsOf l.length (l.flatMap runBytes) = l := by
  induction l with
  | nil => rfl
  | cons r l ih =>
    rw [List.all_cons, Bool.and_eq_true] at h
    obtain ⟨hr, hl⟩ := h
    rw [List.length_cons, runsOf, List.flatMap_cons]
    unfold okRun fits at hr
    simp only [Bool.and_eq_true, decide_eq_true_eq] at hr
    have t1 : (runBytes r ++ l.flatMap runBytes).take 4 = be 4 r.1.toNat := by
      unfold runBytes; rw [List.append_assoc, List.take_append_of_le_length (by rw [be_length]; omega), List.take_of_length_le (by rw [be_length]; omega)]
    have t2 : ((runBytes r ++ l.flatMap runBytes).drop 4).take 4 = be 4 r.2.toNat := by
      unfold runBytes
      rw [List.append_assoc, List.drop_append_of_le_length (by rw [be_length]; omega), List.drop_of_length_le (by rw [be_length]; omega), List.nil_append, List.take_append_of_le_length (by rw [be_length]; omega), List.take_of_length_le (by rw [be_length]; omega)]
    have t3 : (runBytes r ++ l.flatMap runBytes).drop 8 = l.flatMap runBytes := by
      rw [List.drop_append_of_le_length (by rw [runBytes_length]; omega), List.drop_of_length_le (by rw [runBytes_length]; omega), List.nil_append]
    rw [t1, t2, t3, ih hl, num_be_lt (by omega), num_be_lt (by omega)]
    have e1 : ((r.1.toNat : Nat) : Int) = r.1 := by omega
    have e2 : ((r.2.toNat : Nat) : Int) = r.2 := by omega
    rw [e1, e2]
theorem parse_body {next : Int} {l : List Run} {s : List UInt8} (h : body next l = some s) : parse s = some (next, l) := by
  have hl := body_length h
  have h0 := h
  unfold body at h
  split at h
  · rename_i hc
    rw [Bool.and_eq_true, Bool.and_eq_true, decide_eq_true_eq] at hc
    obtain ⟨⟨h1, h2⟩, h3⟩ := hc
    unfold fits at h1
    simp only [Bool.and_eq_true, decide_eq_true_eq] at h1
    injection h with h
    have t1 : s.take 4 = be 4 next.toNat := by
      rw [← h, List.append_assoc, List.take_append_of_le_length (by rw [be_length]; omega), List.take_of_length_le (by rw [be_length]; omega)]
    have t2 : (s.drop 4).take 2 = be 2 l.length := by
      rw [← h, List.append_assoc, List.drop_append_of_le_length (by rw [be_length]; omega), List.drop_of_length_le (by rw [be_length]; omega), List.nil_append, List.take_append_of_le_length (by rw [be_length]; omega), List.take_of_length_le (by rw [be_length]; omega)]
    have t3 : s.drop 6 = l.flatMap runBytes := by
      rw [← h, List.drop_append_of_le_length (by rw [List.length_append, be_length, be_length]; omega), List.drop_of_length_le (by rw [List.length_append, be_length, be_length]; omega), List.nil_append]
    unfold parse
    rw [if_neg (by omega), t1, t2, t3, num_be_lt (by omega), num_be_lt (by omega), if_neg (by omega), runsOf_flat l h3]
    have e1 : ((next.toNat : Nat) : Int) = next := by omega
    rw [e1, if_pos h0]
  · cases h
end Cp
namespace Go.Proofs.YtlgbcogdogpihaaGreatDoor
open Go.RowKit
theorem sized_any (n : Int) (w : World) : Calls Tryz.prog 117 #[.int .i64 n] w fun e w' => e = .returned (.bool (n == 1 || n == 2 || n == 4)) ∧ w = w' := by
  go_enter Tryz.func117, Tryz.ntmps117
  go_wp2
  all_goals go_ret
  all_goals simp [*]
theorem sized_yes (n : Int) (h : n = 1 ∨ n = 2 ∨ n = 4) (w : World) : Calls Tryz.prog 117 #[.int .i64 n] w fun e w' => e = .returned (.bool true) ∧ w = w' := by
  refine (sized_any n w).mono fun e w' ⟨he, hw⟩ => ⟨?_, hw⟩
  rw [he]; rcases h with rfl | rfl | rfl <;> rfl
theorem eiByte : EI Tryz.prog 5 (.int .u8 0) 1 1 := EI.mk (by kernel_rfl)
/-- one byte more of a number -/
theorem enc_step (k n j : Nat) (x : Int) (hj : j < k) (hx : x = ((n / 256 ^ (k - 1 - j) % 256 : Nat) : Int)) : ((Cp.be k n).take j).map encB ++ [Value.int .u8 x] = ((Cp.be k n).take (j + 1)).map encB := by
  rw [Cp.be_take_succ k n j hj, List.map_append, List.map_singleton, encB_ofNat, hx, Nat.mod_mod]
set_option maxRecDepth 100000 in
set_option maxHeartbeats 1000000 in
theorem put1_fits (n : Int) (w : World) (h0 : 0 ≤ n) (h1 : n < 256) : Calls Tryz.prog 74 #[.int .i64 1, .int .i64 n] w fun e w' => e = .returned (.tuple #[.string ⟨(Cp.be 1 n.toNat).toArray⟩, .int .i64 0]) ∧ Below w.heap.size w w' := by
  have h2 : n / 256 = 0 := by omega
  go_enter Tryz.func74, Tryz.ntmps74
  go_wp2_with (go_at_call 117; refine (sized_yes _ (by omega) _).mono ?_; rintro e w' ⟨rfl, rfl⟩)
  go_loopw [6, 7] (fun v i wr => ∃ j : Nat, j ≤ 1 ∧ i = .int .i64 (0 - j : Int) ∧ wr.ownsRow w.heap.size 5 1 v j (((Cp.be 1 n.toNat).take j).map encB) ∧ Below w.heap.size w wr) (fun _ i _ => (intOf i + 1).toNat)
  case atStart => exact ⟨0, by omega, rfl, World.ownsRow_nil _ _ _ _, Below.refl _ _⟩
  case round =>
    obtain ⟨j, hj, rfl, hown, hb⟩ := hrel
    rcases (show j = 0 ∨ j = 1 by omega) with rfl | rfl
    · go_wp2_with (at_builtin; refine wpList_app1 rfl _ _ 57 rfl eiByte Tryz.underlying57 rfl (by decide) rfl hown rfl (by simp) rfl (by simp [Value.oneCell']) (by decide) (by decide) hb.size ?_; intro v' w1 hown' hgrow hbel _ _)
      go_roundw
      case rel => exact ⟨1, by omega, by go_num, by rw [← enc_step 1 n.toNat 0 (n) (by omega) (by simp; omega)]; exact hown', hb.trans (hbel.mono (Nat.le_refl _))⟩
      case measure => simp [intOf]
    · rw [List.take_of_length_le (by rw [Cp.be_length]; omega)] at hown
      have hst := str_of_own (P := Tryz.prog) Tryz.underlying57 Tryz.underlying5 Tryz.underlying9 hown
      clear hown
      go_wp2
      go_ret2
      exact ⟨rfl, hb⟩
set_option maxRecDepth 100000 in
theorem put1_not (n : Int) (w : World) (h : n < 0 ∨ 256 ≤ n) : Calls Tryz.prog 74 #[.int .i64 1, .int .i64 n] w fun e w' => e = .returned (.tuple #[.string ⟨#[]⟩, .int .i64 1]) ∧ w = w' := by
  rcases h with h | h
  · go_enter Tryz.func74, Tryz.ntmps74
    go_wp2_with (go_at_call 117; refine (sized_yes _ (by omega) _).mono ?_; rintro e w' ⟨rfl, rfl⟩)
    go_ret2
    exact ⟨rfl, rfl⟩
  · have h2 : (n / 256 != 0) = true := by rw [bne_iff_ne]; omega
    have h3 : (n / 256 == 0) = false := by rw [beq_eq_false_iff_ne]; omega
    have h4 : decide (n < 0) = false := by simp; omega
    go_enter Tryz.func74, Tryz.ntmps74
    go_wp2_with (go_at_call 117; refine (sized_yes _ (by omega) _).mono ?_; rintro e w' ⟨rfl, rfl⟩)
    go_ret2
    exact ⟨rfl, rfl⟩
theorem put1_any (n : Int) (w : World) : Calls Tryz.prog 74 #[.int .i64 1, .int .i64 n] w fun e w' => e = .returned (.tuple #[.string ⟨(Cp.putS 1 n).toArray⟩, .int .i64 (Cp.putE 1 n)]) ∧ Below w.heap.size w w' := by
  by_cases h : 0 ≤ n ∧ n < 256
  · have hf : Cp.fits 1 n = true := by unfold Cp.fits; simp; omega
    rw [Cp.putS, Cp.putE, hf]
    exact put1_fits n w h.1 h.2
  · have hf : Cp.fits 1 n = false := by unfold Cp.fits; simp; omega
    rw [Cp.putS, Cp.putE, hf]
    exact (put1_not n w (by omega)).mono fun e w' ⟨he, hw⟩ => ⟨he, hw ▸ Below.refl _ _⟩
set_option maxRecDepth 100000 in
set_option maxHeartbeats 1000000 in
theorem put2_fits (n : Int) (w : World) (h0 : 0 ≤ n) (h1 : n < 65536) : Calls Tryz.prog 74 #[.int .i64 2, .int .i64 n] w fun e w' => e = .returned (.tuple #[.string ⟨(Cp.be 2 n.toNat).toArray⟩, .int .i64 0]) ∧ Below w.heap.size w w' := by
  have h2 : n / 65536 = 0 := by omega
  go_enter Tryz.func74, Tryz.ntmps74
  go_wp2_with (go_at_call 117; refine (sized_yes _ (by omega) _).mono ?_; rintro e w' ⟨rfl, rfl⟩)
  go_loopw [6, 7] (fun v i wr => ∃ j : Nat, j ≤ 2 ∧ i = .int .i64 (1 - j : Int) ∧ wr.ownsRow w.heap.size 5 1 v j (((Cp.be 2 n.toNat).take j).map encB) ∧ Below w.heap.size w wr) (fun _ i _ => (intOf i + 1).toNat)
  case atStart => exact ⟨0, by omega, rfl, World.ownsRow_nil _ _ _ _, Below.refl _ _⟩
  case round =>
    obtain ⟨j, hj, rfl, hown, hb⟩ := hrel
    rcases (show j = 0 ∨ j = 1 ∨ j = 2 by omega) with rfl | rfl | rfl
    · go_wp2_with (at_builtin; refine wpList_app1 rfl _ _ 57 rfl eiByte Tryz.underlying57 rfl (by decide) rfl hown rfl (by simp) rfl (by simp [Value.oneCell']) (by decide) (by decide) hb.size ?_; intro v' w1 hown' hgrow hbel _ _)
      go_roundw
      case rel => exact ⟨1, by omega, by go_num, by rw [← enc_step 2 n.toNat 0 (n / 256) (by omega) (by simp; omega)]; exact hown', hb.trans (hbel.mono (Nat.le_refl _))⟩
      case measure => simp [intOf]
    · go_wp2_with (at_builtin; refine wpList_app1 rfl _ _ 57 rfl eiByte Tryz.underlying57 rfl (by decide) rfl hown rfl (by simp) rfl (by simp [Value.oneCell']) (by decide) (by decide) hb.size ?_; intro v' w1 hown' hgrow hbel _ _)
      go_roundw
      case rel => exact ⟨2, by omega, by go_num, by rw [← enc_step 2 n.toNat 1 (n % 256) (by omega) (by simp; omega)]; exact hown', hb.trans (hbel.mono (Nat.le_refl _))⟩
      case measure => simp [intOf]
    · rw [List.take_of_length_le (by rw [Cp.be_length]; omega)] at hown
      have hst := str_of_own (P := Tryz.prog) Tryz.underlying57 Tryz.underlying5 Tryz.underlying9 hown
      clear hown
      go_wp2
      go_ret2
      exact ⟨rfl, hb⟩
set_option maxRecDepth 100000 in
theorem put2_not (n : Int) (w : World) (h : n < 0 ∨ 65536 ≤ n) : Calls Tryz.prog 74 #[.int .i64 2, .int .i64 n] w fun e w' => e = .returned (.tuple #[.string ⟨#[]⟩, .int .i64 1]) ∧ w = w' := by
  rcases h with h | h
  · go_enter Tryz.func74, Tryz.ntmps74
    go_wp2_with (go_at_call 117; refine (sized_yes _ (by omega) _).mono ?_; rintro e w' ⟨rfl, rfl⟩)
    go_ret2
    exact ⟨rfl, rfl⟩
  · have h2 : (n / 65536 != 0) = true := by rw [bne_iff_ne]; omega
    have h3 : (n / 65536 == 0) = false := by rw [beq_eq_false_iff_ne]; omega
    have h4 : decide (n < 0) = false := by simp; omega
    go_enter Tryz.func74, Tryz.ntmps74
    go_wp2_with (go_at_call 117; refine (sized_yes _ (by omega) _).mono ?_; rintro e w' ⟨rfl, rfl⟩)
    go_ret2
    exact ⟨rfl, rfl⟩
theorem put2_any (n : Int) (w : World) : Calls Tryz.prog 74 #[.int .i64 2, .int .i64 n] w fun e w' => e = .returned (.tuple #[.string ⟨(Cp.putS 2 n).toArray⟩, .int .i64 (Cp.putE 2 n)]) ∧ Below w.heap.size w w' := by
  by_cases h : 0 ≤ n ∧ n < 65536
  · have hf : Cp.fits 2 n = true := by unfold Cp.fits; simp; omega
    rw [Cp.putS, Cp.putE, hf]
    exact put2_fits n w h.1 h.2
  · have hf : Cp.fits 2 n = false := by unfold Cp.fits; simp; omega
    rw [Cp.putS, Cp.putE, hf]
    exact (put2_not n w (by omega)).mono fun e w' ⟨he, hw⟩ => ⟨he, hw ▸ Below.refl _ _⟩
set_option maxRecDepth 100000 in
set_option maxHeartbeats 1000000 in
theorem put4_fits (n : Int) (w : World) (h0 : 0 ≤ n) (h1 : n < 4294967296) : Calls Tryz.prog 74 #[.int .i64 4, .int .i64 n] w fun e w' => e = .returned (.tuple #[.string ⟨(Cp.be 4 n.toNat).toArray⟩, .int .i64 0]) ∧ Below w.heap.size w w' := by
  have h2 : n / 4294967296 = 0 := by omega
  go_enter Tryz.func74, Tryz.ntmps74
  go_wp2_with (go_at_call 117; refine (sized_yes _ (by omega) _).mono ?_; rintro e w' ⟨rfl, rfl⟩)
  go_loopw [6, 7] (fun v i wr => ∃ j : Nat, j ≤ 4 ∧ i = .int .i64 (3 - j : Int) ∧ wr.ownsRow w.heap.size 5 1 v j (((Cp.be 4 n.toNat).take j).map encB) ∧ Below w.heap.size w wr) (fun _ i _ => (intOf i + 1).toNat)
  case atStart => exact ⟨0, by omega, rfl, World.ownsRow_nil _ _ _ _, Below.refl _ _⟩
  case round =>
    obtain ⟨j, hj, rfl, hown, hb⟩ := hrel
    rcases (show j = 0 ∨ j = 1 ∨ j = 2 ∨ j = 3 ∨ j = 4 by omega) with rfl | rfl | rfl | rfl | rfl
    · go_wp2_with (at_builtin; refine wpList_app1 rfl _ _ 57 rfl eiByte Tryz.underlying57 rfl (by decide) rfl hown rfl (by simp) rfl (by simp [Value.oneCell']) (by decide) (by decide) hb.size ?_; intro v' w1 hown' hgrow hbel _ _)
      go_roundw
      case rel => exact ⟨1, by omega, by go_num, by rw [← enc_step 4 n.toNat 0 (n / 16777216) (by omega) (by simp; omega)]; exact hown', hb.trans (hbel.mono (Nat.le_refl _))⟩
      case measure => simp [intOf]
    · go_wp2_with (at_builtin; refine wpList_app1 rfl _ _ 57 rfl eiByte Tryz.underlying57 rfl (by decide) rfl hown rfl (by simp) rfl (by simp [Value.oneCell']) (by decide) (by decide) hb.size ?_; intro v' w1 hown' hgrow hbel _ _)
      go_roundw
      case rel => exact ⟨2, by omega, by go_num, by rw [← enc_step 4 n.toNat 1 (n / 65536 % 256) (by omega) (by simp; omega)]; exact hown', hb.trans (hbel.mono (Nat.le_refl _))⟩
      case measure => simp [intOf]
    · go_wp2_with (at_builtin; refine wpList_app1 rfl _ _ 57 rfl eiByte Tryz.underlying57 rfl (by decide) rfl hown rfl (by simp) rfl (by simp [Value.oneCell']) (by decide) (by decide) hb.size ?_; intro v' w1 hown' hgrow hbel _ _)
      go_roundw
      case rel => exact ⟨3, by omega, by go_num, by rw [← enc_step 4 n.toNat 2 (n / 256 % 256) (by omega) (by simp; omega)]; exact hown', hb.trans (hbel.mono (Nat.le_refl _))⟩
      case measure => simp [intOf]
    · go_wp2_with (at_builtin; refine wpList_app1 rfl _ _ 57 rfl eiByte Tryz.underlying57 rfl (by decide) rfl hown rfl (by simp) rfl (by simp [Value.oneCell']) (by decide) (by decide) hb.size ?_; intro v' w1 hown' hgrow hbel _ _)
      go_roundw
      case rel => exact ⟨4, by omega, by go_num, by rw [← enc_step 4 n.toNat 3 (n % 256) (by omega) (by simp; omega)]; exact hown', hb.trans (hbel.mono (Nat.le_refl _))⟩
      case measure => simp [intOf]
    · rw [List.take_of_length_le (by rw [Cp.be_length]; omega)] at hown
      have hst := str_of_own (P := Tryz.prog) Tryz.underlying57 Tryz.underlying5 Tryz.underlying9 hown
      clear hown
      go_wp2
      go_ret2
      exact ⟨rfl, hb⟩
set_option maxRecDepth 100000 in
theorem put4_not (n : Int) (w : World) (h : n < 0 ∨ 4294967296 ≤ n) : Calls Tryz.prog 74 #[.int .i64 4, .int .i64 n] w fun e w' => e = .returned (.tuple #[.string ⟨#[]⟩, .int .i64 1]) ∧ w = w' := by
  rcases h with h | h
  · go_enter Tryz.func74, Tryz.ntmps74
    go_wp2_with (go_at_call 117; refine (sized_yes _ (by omega) _).mono ?_; rintro e w' ⟨rfl, rfl⟩)
    go_ret2
    exact ⟨rfl, rfl⟩
  · have h2 : (n / 4294967296 != 0) = true := by rw [bne_iff_ne]; omega
    have h3 : (n / 4294967296 == 0) = false := by rw [beq_eq_false_iff_ne]; omega
    have h4 : decide (n < 0) = false := by simp; omega
    go_enter Tryz.func74, Tryz.ntmps74
    go_wp2_with (go_at_call 117; refine (sized_yes _ (by omega) _).mono ?_; rintro e w' ⟨rfl, rfl⟩)
    go_ret2
    exact ⟨rfl, rfl⟩
theorem put4_any (n : Int) (w : World) : Calls Tryz.prog 74 #[.int .i64 4, .int .i64 n] w fun e w' => e = .returned (.tuple #[.string ⟨(Cp.putS 4 n).toArray⟩, .int .i64 (Cp.putE 4 n)]) ∧ Below w.heap.size w w' := by
  by_cases h : 0 ≤ n ∧ n < 4294967296
  · have hf : Cp.fits 4 n = true := by unfold Cp.fits; simp; omega
    rw [Cp.putS, Cp.putE, hf]
    exact put4_fits n w h.1 h.2
  · have hf : Cp.fits 4 n = false := by unfold Cp.fits; simp; omega
    rw [Cp.putS, Cp.putE, hf]
    exact (put4_not n w (by omega)).mono fun e w' ⟨he, hw⟩ => ⟨he, hw ▸ Below.refl _ _⟩

end Go.Proofs.YtlgbcogdogpihaaGreatDoor
namespace Go.Proofs.YtlgbcogdogpihaaGreatDoor
open Go.RowKit
/-- a reader's two cells -/
def rdCells (r : Cp.Rd) : Array Value := #[.string ⟨r.rest.toArray⟩, .int .i64 r.err]
set_option maxRecDepth 100000 in
theorem fail_any (g : Nat) (r : Cp.Rd) (x : Int) (w : World) (h : Blk w g 176 (rdCells r)) :
    Calls Tryz.prog 118 #[.pointer (some ⟨g, 0, none⟩), .int .i64 x] w fun e w' => e = .returned (.tuple #[]) ∧ Blk w' g 176 (rdCells (r.fail x)) ∧ w.grownBy w' (some g) := by
  have h1 := h.cell 1
  have f1 := h.frozen 1
  simp only [rdCells] at h1
  by_cases hr : r.err = 0
  · rw [Cp.Rd.fail, if_pos hr]
    rw [hr] at h1
    have hb := h.set_ 1 (.int .i64 x)
    have hg : w.grownBy (w.setCell ⟨g, 1, none⟩ (.int .i64 x)) (some g) := only_setCell (p := ⟨g, 1, none⟩) (World.grownBy.refl w (some g)) (.inl rfl) _
    clear h hr
    go_enter Tryz.func118, Tryz.ntmps118
    go_wp2
    go_end0
    exact ⟨rfl, hb, hg⟩
  · rw [Cp.Rd.fail, if_neg hr]
    have hr' : (r.err == 0) = false := by simpa using hr
    clear hr
    go_enter Tryz.func118, Tryz.ntmps118
    go_wp2
    go_end0
    exact ⟨rfl, h, World.grownBy.refl _ _⟩
theorem read_any (s : List UInt8) (w : World) : Calls Tryz.prog 75 #[.string ⟨s.toArray⟩] w fun e w' => e = .returned (.pointer (some ⟨w.heap.size, 0, none⟩)) ∧ w' = w.alloc (.cells (rdCells ⟨s, 0⟩) 176) := by
  go_enter Tryz.func75, Tryz.ntmps75
  go_wp2
  go_ret
  exact ⟨rfl, rfl⟩
theorem extract_take (l : List UInt8) (n : Nat) : ByteArray.extract ⟨l.toArray⟩ 0 n = ⟨(l.take n).toArray⟩ := by
  apply ByteArray.ext; simp
theorem extract_drop (l : List UInt8) (n : Nat) : ByteArray.extract ⟨l.toArray⟩ n l.length = ⟨(l.drop n).toArray⟩ := by
  apply ByteArray.ext; simp
  rw [List.take_of_length_le (by simp)]
set_option maxRecDepth 100000 in
set_option maxHeartbeats 400000 in
theorem bytes_any (g : Nat) (r : Cp.Rd) (n : Int) (w : World) (h : Blk w g 176 (rdCells r)) :
    Calls Tryz.prog 111 #[.pointer (some ⟨g, 0, none⟩), .int .i64 n] w fun e w' => e = .returned (.string ⟨(r.bytes n).1.toArray⟩) ∧ Blk w' g 176 (rdCells (r.bytes n).2) ∧ w.grownBy w' (some g) := by
  have h0 := h.cell 0
  have h1 := h.cell 1
  have f1 := h.frozen 0
  simp only [rdCells] at h0 h1
  by_cases hn : n < 0
  · have hb : r.bytes n = (if (r.fail 1).err = 0 then ((r.fail 1).rest.take n.toNat, { r.fail 1 with rest := (r.fail 1).rest.drop n.toNat }) else ([], r.fail 1)) := by simp only [Cp.Rd.bytes, if_pos hn]
    have he : (r.fail 1).err ≠ 0 := by unfold Cp.Rd.fail; split <;> simp_all
    rw [if_neg he] at hb
    rw [hb]
    have he' : ((r.fail 1).err == 0) = false := by simpa using he
    clear hb he
    generalize hr : r.fail 1 = r' at *
    have HR := Lib.hid hr
    clear hr
    go_enter Tryz.func111, Tryz.ntmps111
    go_wp2_with (go_at_call 118; refine (fail_any g r 1 w h).mono ?_; rintro e w' ⟨rfl, hB, hg⟩; rw [HR.out] at hB; have g1 := hB.cell 1; simp only [rdCells] at g1)
    go_ret
    exact ⟨rfl, hB, hg⟩
  · by_cases hm : (r.rest.length : Int) < n
    · have hb : r.bytes n = (if (r.fail 10).err = 0 then ((r.fail 10).rest.take n.toNat, { r.fail 10 with rest := (r.fail 10).rest.drop n.toNat }) else ([], r.fail 10)) := by simp only [Cp.Rd.bytes, if_neg hn, if_pos hm]
      have he : (r.fail 10).err ≠ 0 := by unfold Cp.Rd.fail; split <;> simp_all
      rw [if_neg he] at hb
      rw [hb]
      have he' : ((r.fail 10).err == 0) = false := by simpa using he
      clear hb he
      generalize hr : r.fail 10 = r' at *
      have HR := Lib.hid hr
      clear hr
      go_enter Tryz.func111, Tryz.ntmps111
      go_wp2_with (go_at_call 118; refine (fail_any g r 10 w h).mono ?_; rintro e w' ⟨rfl, hB, hg⟩; rw [HR.out] at hB; have g1 := hB.cell 1; simp only [rdCells] at g1)
      go_ret
      exact ⟨rfl, hB, hg⟩
    · obtain ⟨k, rfl⟩ := Int.eq_ofNat_of_zero_le (show 0 ≤ n by omega)
      have hk : k ≤ r.rest.length := by omega
      by_cases he : r.err = 0
      · rw [Cp.bytes_ok he hk]
        have hb : Blk (w.setCell ⟨g, 0, none⟩ (.string ⟨(r.rest.drop k).toArray⟩)) g 176 (rdCells ⟨r.rest.drop k, 0⟩) := by
          have := h.set_ 0 (.string ⟨(r.rest.drop k).toArray⟩)
          simpa [rdCells, he] using this
        have hg : w.grownBy (w.setCell ⟨g, 0, none⟩ (.string ⟨(r.rest.drop k).toArray⟩)) (some g) := only_setCell (p := ⟨g, 0, none⟩) (World.grownBy.refl w (some g)) (.inl rfl) _
        rw [he] at h1
        have HB := Lib.hid hb
        have HG := Lib.hid hg
        clear hb hg h he
        go_enter Tryz.func111, Tryz.ntmps111
        go_wp2
        rw [extract_drop]
        go_ret
        exact ⟨by rw [← extract_take]; rfl, HB.out, HG.out⟩
      · have hb : r.bytes k = ([], r) := by
          have e1 : ¬ ((k : Int) < 0) := by omega
          simp only [Cp.Rd.bytes, if_neg e1, if_neg hm, if_neg he]
        rw [hb]
        have he' : (r.err == 0) = false := by simpa using he
        clear hb he
        go_enter Tryz.func111, Tryz.ntmps111
        go_wp2
        go_ret
        exact ⟨rfl, h, World.grownBy.refl _ _⟩
end Go.Proofs.YtlgbcogdogpihaaGreatDoor
