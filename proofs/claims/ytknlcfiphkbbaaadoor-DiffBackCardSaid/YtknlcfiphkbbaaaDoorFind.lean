/- The walks of entry.Find: a search by halves. -/
import Derived.Test.YtknlcfiphkbbaaaDoorEConcat
import Derived.Deep.LoopGhost
namespace Go.Proofs.YtknlcfiphkbbaaaDoor
open Go.RowKit Go.Shelf
theorem cmpB : ∀ a b : List UInt8, Lib.compareBytes a b = if Op.bytesLess a b then -1 else if Op.bytesLess b a then 1 else 0
  | [], [] => rfl
  | [], _ :: _ => rfl
  | _ :: _, [] => rfl
  | x :: a, y :: b => by
    rw [Lib.compareBytes, cmpB a b]
    by_cases h1 : x < y
    · have h2 : ¬ y < x := by simp only [UInt8.lt_iff_toNat_lt] at *; omega
      simp [Op.bytesLess, h1]
    · by_cases h2 : y < x
      · have h3 : ¬ (x = y) := by rintro rfl; exact h1 h2
        simp [Op.bytesLess, h1, h2, h3]
      · have h3 : x = y := by
          apply UInt8.toNat_inj.1; simp only [UInt8.lt_iff_toNat_lt] at *; omega
        subst h3
        simp [Op.bytesLess, h1]
def cmpS (a b : ByteArray) : Int := Lib.compareBytes a.data.toList b.data.toList
theorem cmpS_eq (a b : ByteArray) : cmpS a b = if En.lt a b then -1 else if En.lt b a then 1 else 0 := by
  unfold cmpS En.lt
  rw [cmpB, Lib.toList_data, Lib.toList_data]
theorem cmpS_lt {a b : ByteArray} (h : En.lt a b = true) : cmpS a b = -1 := by rw [cmpS_eq, h]; rfl
theorem cmpS_eq0 (a : ByteArray) : cmpS a a = 0 := by rw [cmpS_eq, En.lt_irrefl]; rfl
theorem cmpS_gt {a b : ByteArray} (h : En.lt b a = true) : cmpS a b = 1 := by rw [cmpS_eq, En.lt_not h, h]; rfl
set_option maxRecDepth 100000 in
set_option maxHeartbeats 400000 in
theorem find1_any (x : Ent) (k : ByteArray) (w : World) : Calls Tryd.prog 39 #[.agg #[.string x.1, .string x.2], .string k] w fun e w' => e = .returned (.int .i64 (cmpS x.1 k)) ∧ Below w.heap.size w w' := by
  have hc := fun W => hid_calls (cmp_any x.1 k W)
  change ∀ W, Hid (Calls Tryd.prog 40 #[.string x.1, .string k] W fun e w' => e = .returned (.int .i64 (cmpS x.1 k)) ∧ w' = W) at hc
  generalize cmpS x.1 k = q at *
  go_enter Tryd.func39, Tryd.ntmps39
  go_wp2_with fail
  refine (hc _).out.mono ?_
  rintro e w' ⟨rfl, rfl⟩
  go_wp2
  go_ret
  exact ⟨rfl, (Below.refl _ _).alloc (Nat.le_refl _) _⟩
/-- where a key would stand, if the list is in order -/
def Lower (l : List Ent) (k : ByteArray) (i : Nat) : Prop := (∀ j (hj : j < l.length), j < i → En.lt l[j].1 k = true) ∧ (∀ j (hj : j < l.length), i ≤ j → En.lt l[j].1 k = false)
def BsEnd (l : List Ent) (k : ByteArray) (w : World) (e : Ending) (w' : World) : Prop := ∃ (i : Nat) (fd : Bool), e = .returned (.tuple #[.int .i64 i, .bool fd]) ∧ i ≤ l.length ∧ (fd = true → ∃ h : i < l.length, l[i].1 = k) ∧ (fd = false → ∀ h : i < l.length, l[i].1 ≠ k) ∧ (En.Srt l → Lower l k i) ∧ Below w.heap.size w w'
theorem srt_lt {l : List Ent} (h : En.Srt l) {i j : Nat} (hij : i ≤ j) (hj : j < l.length) {k : ByteArray} (hk : En.lt l[j].1 k = true) : En.lt (l[i]'(by omega)).1 k = true := by
  by_cases e : i = j
  · subst e; exact hk
  · exact En.lt_trans (List.pairwise_iff_getElem.1 h i j (by omega) hj (by omega)) hk
theorem srt_ge {l : List Ent} (h : En.Srt l) {i j : Nat} (hij : i ≤ j) (hj : j < l.length) {k : ByteArray} (hk : En.lt (l[i]'(by omega)).1 k = false) : En.lt l[j].1 k = false := by
  cases hc : En.lt l[j].1 k with
  | false => rfl
  | true => rw [srt_lt h hij hj hc] at hk; cases hk
set_option maxRecDepth 100000 in
set_option maxHeartbeats 2000000 in
theorem bs_any (A : Option Addr) (c : Nat) (l : List Ent) (k : ByteArray) (w : World) (hr : LS entE w w.heap.size A l) (hl : l.length ≤ 1000000) :
    Calls Tryd.prog 38 #[.slice A l.length c, .string k, .func (.func 39) #[] #[]] w (BsEnd l k w) := by
  go_enter Tryd.func38, Tryd.ntmps38
  go_wp2
  go_loopg [9, 10, 11] l.length (fun g s7 s8 _ wr => ∃ lo hi : Nat, s7 = .int .i64 lo ∧ s8 = .int .i64 hi ∧ lo ≤ hi ∧ hi ≤ l.length ∧ hi - lo ≤ g ∧ Below w.heap.size w wr ∧ Hid (En.Srt l → (∀ j (hj : j < l.length), j < lo → En.lt l[j].1 k = true) ∧ (∀ j (hj : j < l.length), hi ≤ j → En.lt l[j].1 k = false)))
  case atStart => exact ⟨0, l.length, rfl, rfl, Nat.zero_le _, Nat.le_refl _, by omega, Below.refl _ _, Lib.hid fun _ => ⟨fun j hj h => absurd h (by omega), fun j hj h => absurd h (by omega)⟩⟩
  case round =>
    obtain ⟨lo, hi, rfl, rfl, hlh, hin, hg, hbe, HI⟩ := hrel
    by_cases hlt : lo < hi
    · have hm : (lo + hi) / 2 < l.length := by omega
      obtain ⟨b2, o2, rfl, hb2, g0, g1⟩ := (hr.below hbe).ent hm
      have hc := fun W => hid_calls (find1_any l[(lo + hi) / 2] k W)
      have hsl := fun h i (hi' : i ≤ (lo + hi) / 2) => srt_lt (l := l) h hi' hm (k := k)
      have hsg := fun h j (hj' : (lo + hi) / 2 ≤ j) (hj : j < l.length) => srt_ge (l := l) h hj' hj (k := k)
      have HSL := Lib.hid hsl
      have HSG := Lib.hid hsg
      clear hsl hsg
      generalize hx : l[(lo + hi) / 2] = x at *
      have hb2' : b2 < wr.heap.size := by have := hbe.size; omega
      cases hlx : En.lt x.1 k with
      | true =>
        rw [cmpS_lt hlx] at hc
        have HLX := Lib.hid hlx
        clear hlx
        go_wp2_with fail
        refine (hc _).out.mono ?_
        rintro e w2 ⟨rfl, b3⟩
        go_wp2
        go_roundg (hi - ((lo + hi) / 2 + 1))
        case measure => omega
        case rel =>
          refine ⟨(lo + hi) / 2 + 1, hi, by rw [show ((lo : Int) + (hi : Int)) / 2 + 1 = (((lo + hi) / 2 + 1 : Nat) : Int) by omega], rfl, by omega, hin, Nat.le_refl _, hbe.trans (b3.mono hbe.size), Lib.hid fun hs => ⟨fun j hj hj2 => ?_, (HI.out hs).2⟩⟩
          exact HSL.out hs j (by omega) HLX.out
      | false =>
        have hq : 0 ≤ cmpS x.1 k := by
          rcases En.ge_of hlx with e | e
          · rw [e, cmpS_eq0]; omega
          · rw [cmpS_gt e]; omega
        have HLX := Lib.hid hlx
        clear hlx
        generalize cmpS x.1 k = cq at *
        go_wp2_with fail
        refine (hc _).out.mono ?_
        rintro e w2 ⟨rfl, b3⟩
        go_wp2
        go_roundg ((lo + hi) / 2 - lo)
        case measure => omega
        case rel =>
          refine ⟨lo, (lo + hi) / 2, rfl, by rw [show ((lo : Int) + (hi : Int)) / 2 = (((lo + hi) / 2 : Nat) : Int) by omega], by omega, by omega, Nat.le_refl _, hbe.trans (b3.mono hbe.size), Lib.hid fun hs => ⟨(HI.out hs).1, fun j hj hj2 => ?_⟩⟩
          exact HSG.out hs j hj2 hj (by rw [hx]; exact HLX.out)
    · obtain rfl : lo = hi := by omega
      have hLow : En.Srt l → Lower l k lo := fun hs => HI.out hs
      have HLOW := Lib.hid hLow
      clear hLow HI
      by_cases hend : lo < l.length
      · obtain ⟨b2, o2, rfl, hb2, g0, g1⟩ := (hr.below hbe).ent hend
        have hc := fun W => hid_calls (find1_any l[lo] k W)
        have hb2' : b2 < wr.heap.size := by have := hbe.size; omega
        obtain ⟨x, hx⟩ : ∃ x, x = l[lo] := ⟨_, rfl⟩
        rw [← hx] at hc g0 g1
        have HX := Lib.hid hx
        clear hx
        by_cases he : x.1 = k
        · have hq : cmpS x.1 k = 0 := by rw [he]; exact cmpS_eq0 k
          rw [hq] at hc
          have HE := Lib.hid he
          clear hq he
          go_wp2_with fail
          refine (hc _).out.mono ?_
          rintro e w2 ⟨rfl, b3⟩
          go_wp2
          go_ret2
          exact ⟨lo, true, rfl, hin, fun _ => ⟨hend, by rw [← HX.out]; exact HE.out⟩, fun e => (by cases e), HLOW.out, hbe.trans (b3.mono hbe.size)⟩
        · have hq : (cmpS x.1 k == 0) = false := by
            rcases En.lt_tri x.1 k with e | e | e
            · rw [cmpS_lt e]; rfl
            · exact absurd e he
            · rw [cmpS_gt e]; rfl
          have HE := Lib.hid he
          clear he
          generalize cmpS x.1 k = cq at *
          go_wp2_with fail
          refine (hc _).out.mono ?_
          rintro e w2 ⟨rfl, b3⟩
          go_wp2
          go_ret2
          exact ⟨lo, false, rfl, hin, fun e => (by cases e), fun _ h => by rw [← HX.out]; exact HE.out, HLOW.out, hbe.trans (b3.mono hbe.size)⟩
      · obtain rfl : lo = l.length := by omega
        go_wp2
        go_ret2
        exact ⟨l.length, false, rfl, hin, fun e => (by cases e), fun _ h => absurd h (by omega), HLOW.out, hbe⟩
set_option maxRecDepth 100000 in
set_option maxHeartbeats 400000 in
theorem find_any (A : Option Addr) (c : Nat) (l : List Ent) (k : ByteArray) (w : World) (hr : LS entE w w.heap.size A l) (hl : l.length ≤ 1000000) :
    Calls Tryd.prog 33 #[.slice A l.length c, .string k] w (BsEnd l k w) := by
  have hb := hid_calls (bs_any A c l k w hr hl)
  go_enter Tryd.func33, Tryd.ntmps33
  go_wp2_with fail
  refine hb.out.mono ?_
  rintro e w2 ⟨i, fd, rfl, h1, h2, h3, h4, h5⟩
  have H2 := Lib.hid h2
  have H3 := Lib.hid h3
  have H4 := Lib.hid h4
  clear h2 h3 h4
  go_wp2
  go_ret2
  exact ⟨i, fd, rfl, h1, H2.out, H3.out, H4.out, h5⟩
end Go.Proofs.YtknlcfiphkbbaaaDoor
