/- Plain: numbers as bytes, a chain page. -/
namespace Cp
/-- a number in k bytes, the great ones first; what does not fit is left out -/
def be : Nat → Nat → List UInt8
  | 0, _ => []
  | k + 1, n => be k (n / 256) ++ [UInt8.ofNat (n % 256)]
theorem be_length (k n : Nat) : (be k n).length = k := by
  induction k generalizing n with
  | zero => rfl
  | succ k ih => simp [be, ih]
/-- the number of bytes -/
def num (l : List UInt8) : Nat := l.foldl (fun n c => n * 256 + c.toNat) 0
theorem num_from (l : List UInt8) (n : Nat) : l.foldl (fun n c => n * 256 + c.toNat) n = n * 256 ^ l.length + num l := by
  induction l generalizing n with
  | nil => simp [num]
  | cons c l ih =>
    unfold num
    rw [List.foldl_cons, List.foldl_cons, ih, ih (0 * 256 + c.toNat), List.length_cons, Nat.pow_succ]
    rw [Nat.add_mul, Nat.zero_mul, Nat.zero_add, Nat.add_assoc, Nat.mul_assoc, Nat.mul_comm 256]
theorem num_append (a b : List UInt8) : num (a ++ b) = num a * 256 ^ b.length + num b := by
  show (a ++ b).foldl _ 0 = _
  rw [List.foldl_append, num_from]; rfl
theorem num_snoc (a : List UInt8) (c : UInt8) : num (a ++ [c]) = num a * 256 + c.toNat := by
  rw [num_append]; simp [num]
theorem num_lt (l : List UInt8) : num l < 256 ^ l.length := by
  have : ∀ (k : Nat) (l : List UInt8), l.length = k → num l < 256 ^ k := by
    intro k
    induction k with
    | zero => intro l h; have : l = [] := List.eq_nil_of_length_eq_zero h; subst this; simp [num]
    | succ k ih =>
      intro l h
      have hne : l ≠ [] := by rintro rfl; simp at h
      rw [← List.dropLast_concat_getLast hne, num_snoc]
      have h1 := ih l.dropLast (by simp [h])
      have h2 := (l.getLast hne).toNat_lt
      rw [Nat.pow_succ]
      omega
  exact this _ l rfl
theorem num_be (k n : Nat) : num (be k n) = n % 256 ^ k := by
  induction k generalizing n with
  | zero => simp [be, num, Nat.mod_one]
  | succ k ih =>
    rw [be, num_snoc, ih]
    have : (UInt8.ofNat (n % 256)).toNat = n % 256 := by simp
    rw [this, Nat.pow_succ, Nat.mul_comm (256 ^ k) 256, Nat.mod_mul]
    omega
theorem num_be_lt {k n : Nat} (h : n < 256 ^ k) : num (be k n) = n := by rw [num_be, Nat.mod_eq_of_lt h]
theorem be_num (k : Nat) : ∀ (l : List UInt8), l.length = k → be k (num l) = l := by
  induction k with
  | zero => intro l h; have : l = [] := List.eq_nil_of_length_eq_zero h; subst this; rfl
  | succ k ih =>
    intro l h
    have hne : l ≠ [] := by rintro rfl; simp at h
    have e := List.dropLast_concat_getLast hne
    rw [← e, num_snoc, be]
    have h2 := (l.getLast hne).toNat_lt
    rw [show (num l.dropLast * 256 + (l.getLast hne).toNat) / 256 = num l.dropLast by omega, show (num l.dropLast * 256 + (l.getLast hne).toNat) % 256 = (l.getLast hne).toNat by omega, ih _ (by simp [h])]
    simp
/-- byte j from the great end -/
theorem be_getElem? (k n j : Nat) (h : j < k) : (be k n)[j]? = some (UInt8.ofNat (n / 256 ^ (k - 1 - j) % 256)) := by
  induction k generalizing n j with
  | zero => omega
  | succ k ih =>
    rw [be]
    by_cases hj : j < k
    · rw [List.getElem?_append_left (by rw [be_length]; exact hj), ih _ _ hj]
      have e : k + 1 - 1 - j = (k - 1 - j) + 1 := by omega
      rw [e, Nat.pow_succ, Nat.mul_comm (256 ^ _), Nat.div_div_eq_div_mul]
    · obtain rfl : j = k := by omega
      rw [List.getElem?_append_right (by rw [be_length]; omega), be_length]
      simp
/-- the first j bytes, with one more -/
theorem be_take_succ (k n j : Nat) (h : j < k) : (be k n).take (j + 1) = (be k n).take j ++ [UInt8.ofNat (n / 256 ^ (k - 1 - j) % 256)] := by
  rw [List.take_add_one, be_getElem? k n j h]; rfl

def sized (n : Int) : Bool := decide (n = 1) || decide (n = 2) || decide (n = 4)
/-- may n stand in so many bytes? -/
def fits (k : Nat) (n : Int) : Bool := decide (0 ≤ n) && decide (n < (256 ^ k : Nat))

/-- the answer of Put: its text, its error -/
def putS (k : Nat) (n : Int) : List UInt8 := if fits k n then be k n.toNat else []
def putE (k : Nat) (n : Int) : Int := if fits k n then 0 else 1

/-! the reader: what is left, the first error -/
structure Rd where
  rest : List UInt8
  err : Int
def Rd.fail (r : Rd) (e : Int) : Rd := if r.err = 0 then { r with err := e } else r
def Rd.bytes (r : Rd) (n : Int) : List UInt8 × Rd :=
  let r1 := if n < 0 then r.fail 1 else if (r.rest.length : Int) < n then r.fail 10 else r
  if r1.err = 0 then (r1.rest.take n.toNat, { r1 with rest := r1.rest.drop n.toNat }) else ([], r1)
def Rd.int (r : Rd) (k : Nat) : Nat × Rd := (num (r.bytes k).1, (r.bytes k).2)

/-! a chain's page -/
abbrev Run := Int × Int
def okRun (r : Run) : Bool := fits 4 r.1 && fits 4 r.2 && decide (r.1 ≤ r.2)
def runBytes (r : Run) : List UInt8 := be 4 r.1.toNat ++ be 4 r.2.toNat
/-- the document's -/
def body (next : Int) (l : List Run) : Option (List UInt8) :=
  if fits 4 next && decide (l.length ≤ 29) && l.all okRun then some (be 4 next.toNat ++ be 2 l.length ++ l.flatMap runBytes) else none
theorem runBytes_length (r : Run) : (runBytes r).length = 8 := by simp [runBytes, be_length]
theorem flat_length (l : List Run) : (l.flatMap runBytes).length = 8 * l.length := by
  induction l with
  | nil => rfl
  | cons r l ih => rw [List.flatMap_cons, List.length_append, ih, runBytes_length, List.length_cons]; omega
theorem body_length {next : Int} {l : List Run} {s : List UInt8} (h : body next l = some s) : s.length = 6 + 8 * l.length := by
  unfold body at h
  split at h
  · injection h with h; subst h; simp only [List.length_append, be_length, flat_length]
  · cases h

/-- the runs that stand in bytes -/
def runsOf : Nat → List UInt8 → List Run
  | 0, _ => []
  | k + 1, s => ((num (s.take 4) : Int), (num ((s.drop 4).take 4) : Int)) :: runsOf k (s.drop 8)
theorem runsOf_length (k : Nat) (s : List UInt8) : (runsOf k s).length = k := by
  induction k generalizing s with
  | zero => rfl
  | succ k ih => simp [runsOf, ih]
/-- the document's Parse -/
def parse (s : List UInt8) : Option (Int × List Run) :=
  if s.length < 6 then none
  else if 29 < num ((s.drop 4).take 2) ∨ s.length ≠ 6 + 8 * num ((s.drop 4).take 2) then none
  else if body (num (s.take 4)) (runsOf (num ((s.drop 4).take 2)) (s.drop 6)) = some s then some ((num (s.take 4) : Int), runsOf (num ((s.drop 4).take 2)) (s.drop 6))
  else none

/-! the program's Parse -/
def Rd.two (r : Rd) : Run × Rd := (((r.int 4).1, ((r.int 4).2.int 4).1), ((r.int 4).2.int 4).2)
def readRuns : Nat → Rd → List Run × Rd
  | 0, r => ([], r)
  | k + 1, r => (r.two.1 :: (readRuns k r.two.2).1, (readRuns k r.two.2).2)
def prog (s : List UInt8) : Option (Int × List Run) :=
  let r0 : Rd := ⟨s, 0⟩
  let next := (r0.int 4).1
  let n := ((r0.int 4).2.int 2).1
  let l := (readRuns (min n 29) ((r0.int 4).2.int 2).2).1
  if body next l = some s then some ((next : Int), l) else none

theorem bytes_ok {r : Rd} {k : Nat} (he : r.err = 0) (hk : k ≤ r.rest.length) : r.bytes k = (r.rest.take k, ⟨r.rest.drop k, 0⟩) := by
  have h1 : ¬ ((k : Int) < 0) := by omega
  have h2 : ¬ ((r.rest.length : Int) < (k : Int)) := by omega
  simp only [Rd.bytes, if_neg h1, if_neg h2, he, if_true, Int.toNat_natCast]
theorem int_ok {r : Rd} {k : Nat} (he : r.err = 0) (hk : k ≤ r.rest.length) : r.int k = (num (r.rest.take k), ⟨r.rest.drop k, 0⟩) := by
  unfold Rd.int; rw [bytes_ok he hk]
theorem readRuns_length (k : Nat) (r : Rd) : (readRuns k r).1.length = k := by
  induction k generalizing r with
  | zero => rfl
  | succ k ih => simp [readRuns, ih]
theorem readRuns_ok (k : Nat) : ∀ (s : List UInt8), 8 * k ≤ s.length → (readRuns k ⟨s, 0⟩).1 = runsOf k s := by
  induction k with
  | zero => intro s _; rfl
  | succ k ih =>
    intro s h
    have e1 : (Rd.mk s 0).int 4 = (num (s.take 4), ⟨s.drop 4, 0⟩) := int_ok rfl (by show 4 ≤ s.length; omega)
    have e2 : (Rd.mk (s.drop 4) 0).int 4 = (num ((s.drop 4).take 4), ⟨(s.drop 4).drop 4, 0⟩) := int_ok rfl (by show 4 ≤ (s.drop 4).length; simp; omega)
    have e3 : (Rd.mk s 0).two = (((num (s.take 4) : Int), (num ((s.drop 4).take 4) : Int)), ⟨s.drop 8, 0⟩) := by
      unfold Rd.two; rw [e1]; simp only; rw [e2]; simp
    rw [readRuns, runsOf, e3]
    simp only
    rw [ih _ (by simp; omega)]
theorem head2 {a b : Nat} {f s : List UInt8} (h : be 4 a ++ be 2 b ++ f = s) : (s.drop 4).take 2 = be 2 b := by
  rw [← h, List.append_assoc, List.drop_append_of_le_length (by rw [be_length]; omega), List.drop_of_length_le (by rw [be_length]; omega), List.nil_append, List.take_append_of_le_length (by rw [be_length]; omega), List.take_of_length_le (by rw [be_length]; omega)]
theorem body_head2 {next : Int} {l : List Run} {s : List UInt8} (h : body next l = some s) : (s.drop 4).take 2 = be 2 l.length := by
  unfold body at h
  split at h
  · injection h with h; exact head2 h
  · cases h
theorem prog_eq (s : List UInt8) : prog s = parse s := by
  unfold prog parse
  by_cases h6 : s.length < 6
  · rw [if_pos h6]
    simp only
    rw [if_neg]
    intro hb
    have := body_length hb
    omega
  · rw [if_neg h6]
    have e1 : (Rd.mk s 0).int 4 = (num (s.take 4), ⟨s.drop 4, 0⟩) := int_ok rfl (by show 4 ≤ s.length; omega)
    have e2 : (Rd.mk (s.drop 4) 0).int 2 = (num ((s.drop 4).take 2), ⟨s.drop 6, 0⟩) := by
      have := int_ok (r := Rd.mk (s.drop 4) 0) (k := 2) rfl (by show 2 ≤ (s.drop 4).length; simp; omega)
      simpa using this
    simp only [e1, e2]
    by_cases hbad : 29 < num ((s.drop 4).take 2) ∨ s.length ≠ 6 + 8 * num ((s.drop 4).take 2)
    · rw [if_pos hbad, if_neg]
      intro hb
      have hl := body_length hb
      rw [readRuns_length] at hl
      -- bytes 4 and 5 are the number of runs
      have hn : num ((s.drop 4).take 2) = min (num ((s.drop 4).take 2)) 29 := by
        have h2 := body_head2 hb
        rw [readRuns_length] at h2
        have h3 : min (num ((s.drop 4).take 2)) 29 < 256 ^ 2 := by have : min (num ((s.drop 4).take 2)) 29 ≤ 29 := Nat.min_le_right _ _; omega
        exact (congrArg num h2).trans (num_be_lt h3)
      rcases hbad with h | h <;> omega
    · rw [if_neg hbad]
      have hk : num ((s.drop 4).take 2) ≤ 29 ∧ s.length = 6 + 8 * num ((s.drop 4).take 2) := by omega
      rw [Nat.min_eq_left hk.1, readRuns_ok _ _ (by simp; omega)]

/-- what is read of a body is what was written -/
theorem runsOf_flat (l : List Run) (h : l.all okRun = true) : runsOf l.length (l.flatMap runBytes) = l := by
  induction l with
  | nil => rfl
  | cons r l ih =>
    rw [List.all_cons, Bool.and_eq_true] at h
    obtain ⟨hr, hl⟩ := h
    rw [List.length_cons, runsOf, List.flatMap_cons]
    unfold okRun fits at hr
    simp only [Bool.and_eq_true, decide_eq_true_eq] at hr
    have t1 : (runBytes r ++ l.flatMap runBytes).take 4 = be 4 r.1.toNat := by
      unfold runBytes; rw [List.append_assoc, List.take_append_of_le_length (by rw [be_length]; omega), List.take_of_length_le (by rw [be_length]; omega)]
    have t2 : ((runBytes r ++ l.flatMap runBytes).drop 4).take 4 = be 4 r.2.toNat := by
      unfold runBytes
      rw [List.append_assoc, List.drop_append_of_le_length (by rw [be_length]; omega), List.drop_of_length_le (by rw [be_length]; omega), List.nil_append, List.take_append_of_le_length (by rw [be_length]; omega), List.take_of_length_le (by rw [be_length]; omega)]
    have t3 : (runBytes r ++ l.flatMap runBytes).drop 8 = l.flatMap runBytes := by
      rw [List.drop_append_of_le_length (by rw [runBytes_length]; omega), List.drop_of_length_le (by rw [runBytes_length]; omega), List.nil_append]
    rw [t1, t2, t3, ih hl, num_be_lt (by omega), num_be_lt (by omega)]
    have e1 : ((r.1.toNat : Nat) : Int) = r.1 := by omega
    have e2 : ((r.2.toNat : Nat) : Int) = r.2 := by omega
    rw [e1, e2]
theorem parse_body {next : Int} {l : List Run} {s : List UInt8} (h : body next l = some s) : parse s = some (next, l) := by
  have hl := body_length h
  have h0 := h
  unfold body at h
  split at h
  · rename_i hc
    rw [Bool.and_eq_true, Bool.and_eq_true, decide_eq_true_eq] at hc
    obtain ⟨⟨h1, h2⟩, h3⟩ := hc
    unfold fits at h1
    simp only [Bool.and_eq_true, decide_eq_true_eq] at h1
    injection h with h
    have t1 : s.take 4 = be 4 next.toNat := by
      rw [← h, List.append_assoc, List.take_append_of_le_length (by rw [be_length]; omega), List.take_of_length_le (by rw [be_length]; omega)]
    have t2 : (s.drop 4).take 2 = be 2 l.length := by
      rw [← h, List.append_assoc, List.drop_append_of_le_length (by rw [be_length]; omega), List.drop_of_length_le (by rw [be_length]; omega), List.nil_append, List.take_append_of_le_length (by rw [be_length]; omega), List.take_of_length_le (by rw [be_length]; omega)]
    have t3 : s.drop 6 = l.flatMap runBytes := by
      rw [← h, List.drop_append_of_le_length (by rw [List.length_append, be_length, be_length]; omega), List.drop_of_length_le (by rw [List.length_append, be_length, be_length]; omega), List.nil_append]
    unfold parse
    rw [if_neg (by omega), t1, t2, t3, num_be_lt (by omega), num_be_lt (by omega), if_neg (by omega), runsOf_flat l h3]
    have e1 : ((next.toNat : Nat) : Int) = next := by omega
    rw [e1, if_pos h0]
  · cases h
end Cp
