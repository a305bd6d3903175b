/- The walk of rootstocklaw09.ChainBodies: it returns true at every input. -/
import Derived.Test.YtknlcfiphkbbaaaWorks9
import Derived.Test.YtknlcfiphkbbaaaRparse
namespace Go.Proofs.Ytknlcfiphkbbaaa
open Go.RowKit
theorem parse_len {s : List UInt8} {n : Int} {l : List Run} (h : Cp.parse s = some (n, l)) : l.length ≤ 29 := by
  unfold Cp.parse at h
  split at h
  · cases h
  · split at h
    · cases h
    · split at h
      · injection h with h
        injection h with h1 h2
        rw [← h2, Cp.runsOf_length]
        omega
      · cases h
theorem ends_same {o : Option (Int × List Run)} {n1 n2 : Int} {l1 l2 : List Run} {x1 : Int} {x2 : Bool} (hl : ∀ n l, o = some (n, l) → l.length ≤ 29) (h1 : o = none ∧ n1 = 0 ∧ l1 = [] ∧ x1 = 3 ∨ o = some (n1, l1) ∧ x1 = 0)
    (h2 : o = none ∧ n2 = 0 ∧ l2 = [] ∧ x2 = false ∨ o = some (n2, l2) ∧ x2 = true) : n1 = n2 ∧ l1 = l2 ∧ l1.length ≤ 29 ∧ (x1 = 3 ∧ x2 = false ∨ x1 = 0 ∧ x2 = true) := by
  rcases h1 with ⟨h, rfl, rfl, rfl⟩ | ⟨h, rfl⟩ <;> rcases h2 with ⟨h', rfl, rfl, rfl⟩ | ⟨h', rfl⟩ <;> rw [h] at h'
  · exact ⟨rfl, rfl, by simp, .inl ⟨rfl, rfl⟩⟩
  · cases h'
  · cases h'
  · injection h' with h'
    injection h' with a b
    exact ⟨a, b, hl _ _ h, .inr ⟨rfl, rfl⟩⟩
set_option maxRecDepth 100000 in
set_option maxHeartbeats 1000000 in
theorem chainBodies_main (next : Int) (A : Option Addr) (c : Nat) (l : List Run) (s : List UInt8) (w : World) (hr : RS w w.heap.size A l) (hn : Wf64 next) (hw : ∀ k (hk : k < l.length), Wf64 l[k].1 ∧ Wf64 l[k].2) (hl : l.length ≤ 100) (hs : s.length ≤ 1000) :
    Calls Try.prog 3 #[.int .i64 next, .slice A l.length c, .string ⟨s.toArray⟩] w (TrueEnd w) := by
  have hB := fun W h => body_any next A c l W h (by omega)
  have hRB := fun W h => rbody_any next A c l W h (by omega) hn hw
  have hP := fun W => parse_any s W
  have hRP := fun W => rparse_any s W (by omega)
  have hpg := fun W h => pages_any sort_said A c l W h (by omega)
  have hrpg := fun W h => rpages_any A c l W h (by omega)
  have hPB := fun S (h : Cp.body next l = some S) => (Cp.prog_eq S).trans (Cp.parse_body h)
  rw [Cp.prog_eq s] at hP
  unfold PagesEnd at hpg hrpg
  generalize pg l = p at hpg hrpg
  have hpl := fun n l => parse_len (s := s) (n := n) (l := l)
  generalize Cp.parse s = o at hP hRP hpl
  have HPL := Lib.hid hpl
  clear hpl
  have HB := fun W h => Lib.hid (hB W h)
  have HRB := fun W h => Lib.hid (hRB W h)
  have HP := fun W => Lib.hid (hP W)
  have HRP := fun W => Lib.hid (hRP W)
  have HPG := fun W h => Lib.hid (hpg W h)
  have HRPG := fun W h => Lib.hid (hrpg W h)
  have HPB := fun S => Lib.hid (hPB S)
  clear hB hRB hP hRP hpg hrpg hPB hw
  go_enter Try.func3, Try.ntmps3
  go_wp2_with fail
  refine (works_any w).mono ?_
  rintro e w1 ⟨rfl, b1⟩
  have r1 : RS w1 w1.heap.size A l := (hr.below b1).more b1.size
  go_wp2_with fail
  refine (HB w1 r1).out.mono ?_
  rintro e w2 ⟨rfl, b2⟩
  have r2 : RS w2 w2.heap.size A l := (r1.below b2).more b2.size
  have c2 : Below w.heap.size w w2 := b1.trans (b2.mono b1.size)
  cases hbd : Cp.body next l with
  | none =>
    rw [hbd] at HRB
    clear HPB
    simp only [bodyV]
    go_wp2_with fail
    refine (HRB w2 r2).out.mono ?_
    rintro e w3 ⟨rfl, b3⟩
    have r3 : RS w3 w3.heap.size A l := (r2.below b3).more b3.size
    have c3 : Below w.heap.size w w3 := c2.trans (b3.mono c2.size)
    simp only [rbodyV]
    go_wp2_with fail
    refine (HP w3).out.mono ?_
    rintro e w4 ⟨n1, v1, l1, x1, rfl, ho1, b4, hd1⟩
    have HD1 := Lib.hid hd1
    clear hd1
    have r4 : RS w4 w4.heap.size A l := (r3.below b4).more b4.size
    have c4 : Below w.heap.size w w4 := c3.trans (b4.mono c3.size)
    obtain ⟨A1, k1, rfl⟩ := ho1.form
    go_wp2_with fail
    refine (HRP w4).out.mono ?_
    rintro e w5 ⟨n2, v2, l2, x2, rfl, ho2, b5, hd2⟩
    obtain ⟨rfl, rfl, hll, hx⟩ := ends_same HPL.out HD1.out hd2
    clear hd2
    have r5 : RS w5 w5.heap.size A l := (r4.below b5).more b5.size
    have c5 : Below w.heap.size w w5 := c4.trans (b5.mono c4.size)
    obtain ⟨A2, k2, rfl⟩ := ho2.form
    have ha : RS w5 w5.heap.size A1 l1 := (ho1.rs.below b5).more b5.size
    have hb' : RS w5 w5.heap.size A2 l1 := ho2.rs
    have HSM := Lib.hid (same_yes A1 A2 l1 k1 k2 w5 ha hb' (by omega))
    rcases hx with ⟨rfl, rfl⟩ | ⟨rfl, rfl⟩
    all_goals
      go_wp2_with (go_at_call 11; refine HSM.out.mono ?_; clear HSM; rintro e w6 ⟨rfl, b6⟩)
      have r6 : RS w6 w6.heap.size A l := (r5.below b6).more b6.size
      have c6 : Below w.heap.size w w6 := c5.trans (b6.mono c5.size)
      refine (HPG w6 r6).out.mono ?_
      rintro e w7 ⟨rfl, b7⟩
      have r7 : RS w7 w7.heap.size A l := (r6.below b7).more b7.size
      have c7 : Below w.heap.size w w7 := c6.trans (b7.mono c6.size)
      go_wp2_with fail
      refine (HRPG w7 r7).out.mono ?_
      rintro e w8 ⟨rfl, b8⟩
      have c8 : Below w.heap.size w w8 := c7.trans (b8.mono c7.size)
      go_wp2
      go_ret
      exact ⟨rfl, c8⟩
  | some S =>
    rw [hbd] at HRB
    have hps := fun W => parse_any S W
    rw [(HPB S).out hbd] at hps
    have HPS := fun W => Lib.hid (hps W)
    clear hps HPB
    simp only [bodyV]
    go_wp2_with fail
    refine (HRB w2 r2).out.mono ?_
    rintro e w3 ⟨rfl, b3⟩
    have r3 : RS w3 w3.heap.size A l := (r2.below b3).more b3.size
    have c3 : Below w.heap.size w w3 := c2.trans (b3.mono c2.size)
    simp only [rbodyV]
    go_wp2_with fail
    refine (HP w3).out.mono ?_
    rintro e w4 ⟨n1, v1, l1, x1, rfl, ho1, b4, hd1⟩
    have HD1 := Lib.hid hd1
    clear hd1
    have r4 : RS w4 w4.heap.size A l := (r3.below b4).more b4.size
    have c4 : Below w.heap.size w w4 := c3.trans (b4.mono c3.size)
    obtain ⟨A1, k1, rfl⟩ := ho1.form
    go_wp2_with fail
    refine (HRP w4).out.mono ?_
    rintro e w5 ⟨n2, v2, l2, x2, rfl, ho2, b5, hd2⟩
    obtain ⟨rfl, rfl, hll, hx⟩ := ends_same HPL.out HD1.out hd2
    clear hd2
    have r5 : RS w5 w5.heap.size A l := (r4.below b5).more b5.size
    have c5 : Below w.heap.size w w5 := c4.trans (b5.mono c4.size)
    obtain ⟨A2, k2, rfl⟩ := ho2.form
    have ha : RS w5 w5.heap.size A1 l1 := (ho1.rs.below b5).more b5.size
    have hb' : RS w5 w5.heap.size A2 l1 := ho2.rs
    have HSM := Lib.hid (same_yes A1 A2 l1 k1 k2 w5 ha hb' (by omega))
    rcases hx with ⟨rfl, rfl⟩ | ⟨rfl, rfl⟩
    all_goals
      go_wp2_with (go_at_call 11; refine HSM.out.mono ?_; clear HSM; rintro e w6 ⟨rfl, b6⟩)
      have r6 : RS w6 w6.heap.size A l := (r5.below b6).more b6.size
      have c6 : Below w.heap.size w w6 := c5.trans (b6.mono c5.size)
      refine (HPS w6).out.mono ?_
      rintro e w7 ⟨n3, v3, l3, x3, rfl, ho3, b7, ⟨hno, _⟩ | ⟨hs3, rfl⟩⟩
      · cases hno
      injection hs3 with hs3
      injection hs3 with hs4 hs5
      subst hs4 hs5
      obtain ⟨A3, k3, rfl⟩ := ho3.form
      have r7 : RS w7 w7.heap.size A l := (r6.below b7).more b7.size
      have c7 : Below w.heap.size w w7 := c6.trans (b7.mono c6.size)
      have HSN := Lib.hid (same_yes A3 A l k3 c w7 ho3.rs r7 (by omega))
      go_wp2_with (go_at_call 11; refine HSN.out.mono ?_; clear HSN; rintro e w8 ⟨rfl, b8⟩)
      have r8 : RS w8 w8.heap.size A l := (r7.below b8).more b8.size
      have c8 : Below w.heap.size w w8 := c7.trans (b8.mono c7.size)
      refine (HPG w8 r8).out.mono ?_
      rintro e w9 ⟨rfl, b9⟩
      have r9 : RS w9 w9.heap.size A l := (r8.below b9).more b9.size
      have c9 : Below w.heap.size w w9 := c8.trans (b9.mono c8.size)
      go_wp2_with fail
      refine (HRPG w9 r9).out.mono ?_
      rintro e w10 ⟨rfl, b10⟩
      have c10 : Below w.heap.size w w10 := c9.trans (b10.mono c9.size)
      go_wp2
      go_ret
      exact ⟨rfl, c10⟩
set_option maxRecDepth 100000 in
set_option maxHeartbeats 400000 in
theorem chainBodies_big (next : Int) (A : Option Addr) (n c : Nat) (s : ByteArray) (w : World) (h : 100 < n ∨ 1000 < s.size) :
    Calls Try.prog 3 #[.int .i64 next, .slice A n c, .string s] w (TrueEnd w) := by
  by_cases hn : 100 < n
  · clear h
    go_enter Try.func3, Try.ntmps3
    go_wp2_with (go_at_call 6; refine (works_any _).mono ?_; rintro e w1 ⟨rfl, b1⟩)
    go_ret
    exact ⟨rfl, b1⟩
  · have hs : 1000 < s.size := by omega
    clear h
    go_enter Try.func3, Try.ntmps3
    go_wp2_with (go_at_call 6; refine (works_any _).mono ?_; rintro e w1 ⟨rfl, b1⟩)
    go_ret
    exact ⟨rfl, b1⟩
theorem chainBodies_any (next : Int) (A : Option Addr) (n c : Nat) (l : List Run) (s : ByteArray) (w : World) (hln : l.length = n) (hr : RS w w.heap.size A l) (hn : Wf64 next) (hw : ∀ k (hk : k < l.length), Wf64 l[k].1 ∧ Wf64 l[k].2) :
    Calls Try.prog 3 #[.int .i64 next, .slice A n c, .string s] w (TrueEnd w) := by
  subst hln
  by_cases h : 100 < l.length ∨ 1000 < s.size
  · exact chainBodies_big next A l.length c s w h
  · have e : s = ⟨s.data.toList.toArray⟩ := by apply ByteArray.ext; simp
    have hsz : s.data.toList.length = s.size := Array.length_toList
    rw [e]
    exact chainBodies_main next A c l s.data.toList w hr hn hw (by omega) (by omega)
end Go.Proofs.Ytknlcfiphkbbaaa
