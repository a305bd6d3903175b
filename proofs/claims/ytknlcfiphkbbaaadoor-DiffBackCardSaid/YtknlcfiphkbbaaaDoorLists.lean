/- The walk of treediff.Lists. -/
import Derived.Test.YtknlcfiphkbbaaaDoorStep
import Derived.Test.YtknlcfiphkbbaaaDoorWhole
import Derived.Test.YtknlcfiphkbbaaaDoorEnc
import Derived.Deep.LoopGhost
namespace Go.Proofs.YtknlcfiphkbbaaaDoor
open Go.RowKit
/-- what is told of two lists -/
def told (a b : List Ent) : List Dl := if En.right a && En.right b then En.mergeD a b else []
theorem PairAt.out_ {w : World} {g base : Nat} {a b : List Ent} {out : List Dl} (h : PairAt w g base a b out) : ∃ v, w.cell? ⟨g, 4, none⟩ = some v ∧ LO dlE 37 w base v out := by
  obtain ⟨va, vb, vo, h1, h2, h3, h4⟩ := h
  exact ⟨vo, h1.cell 4, h4⟩
/-- one round -/
def RoundEnd (g base : Nat) (a b : List Ent) (out : List Dl) (w : World) (e : Ending) (w' : World) : Prop :=
  ∃ (on : Bool) (a' b' : List Ent) (out' : List Dl), e = .returned (.tuple #[.bool on, .int .i64 0]) ∧ PairAt w' g base a' b' out' ∧ Below base w w' ∧ out' ++ En.mergeD a' b' = out ++ En.mergeD a b ∧
    (on = true → a'.length + b'.length < a.length + b.length) ∧ (on = false → a' = [] ∧ b' = []) ∧ a'.length ≤ a.length ∧ b'.length ≤ b.length ∧ out'.length ≤ out.length + 1
theorem step_any (g base : Nat) (a b : List Ent) (out : List Dl) (w : World) (h : PairAt w g base a b out) (hg : base ≤ g) (hB : base ≤ w.heap.size) (ha : a.length ≤ 100000) (hb : b.length ≤ 100000) (ho : out.length ≤ 100000) :
    Calls Tryd.prog 17 #[.pointer (some ⟨g, 0, none⟩)] w (RoundEnd g base a b out w) := by
  cases a with
  | nil =>
    cases b with
    | nil =>
      refine (step_done g base out w h hB).mono ?_
      rintro e w' ⟨rfl, h1, h2⟩
      exact ⟨false, [], [], out, rfl, h1, h2, rfl, fun e => by (cases e), fun _ => ⟨rfl, rfl⟩, by simp, by simp, by omega⟩
    | cons y b =>
      simp at hb
      refine (step_b0 g base y b out w h hg hB (by omega) ho).mono ?_
      rintro e w' ⟨rfl, h1, h2⟩
      exact ⟨true, [], b, _, rfl, h1, h2, by rw [En.merge_b]; simp, fun _ => by simp, fun e => by (cases e), by simp, by simp, by simp⟩
  | cons x a =>
    simp at ha
    cases b with
    | nil =>
      refine (step_a0 g base x a out w h hg hB (by omega) ho).mono ?_
      rintro e w' ⟨rfl, h1, h2⟩
      exact ⟨true, a, [], _, rfl, h1, h2, by rw [En.merge_a]; simp, fun _ => by simp, fun e => by (cases e), by simp, by simp, by simp⟩
    | cons y b =>
      simp at hb
      cases hlt : En.lt x.1 y.1 with
      | true =>
        refine (step_lt g base x a y b out w h hg hB (by omega) (by omega) ho hlt).mono ?_
        rintro e w' ⟨rfl, h1, h2⟩
        exact ⟨true, a, y :: b, _, rfl, h1, h2, by rw [En.merge_ab, hlt]; simp, fun _ => by simp, fun e => by (cases e), by simp, by simp, by simp⟩
      | false =>
        cases hgt : En.lt y.1 x.1 with
        | true =>
          refine (step_gt g base x a y b out w h hg hB (by omega) (by omega) ho hlt hgt).mono ?_
          rintro e w' ⟨rfl, h1, h2⟩
          exact ⟨true, x :: a, b, _, rfl, h1, h2, by rw [En.merge_ab, hlt, hgt]; simp, fun _ => by simp, fun e => by (cases e), by simp, by simp, by simp⟩
        | false =>
          refine (step_eq g base x a y b out w h hg hB (by omega) (by omega) ho hlt hgt).mono ?_
          rintro e w' ⟨rfl, h1, h2⟩
          have := En.dBoth_len x y
          exact ⟨true, a, b, _, rfl, h1, h2, by rw [En.merge_ab, hlt, hgt]; simp, fun _ => by simp; omega, fun e => by (cases e), by simp, by simp, by simp; omega⟩
set_option maxRecDepth 100000 in
set_option maxHeartbeats 1000000 in
theorem lists_no (A1 A2 : Option Addr) (c1 c2 : Nat) (a b : List Ent) (w : World) (h1 : LS entE w w.heap.size A1 a) (h2 : LS entE w w.heap.size A2 b) (ha : a.length ≤ 1000) (hb : b.length ≤ 1000) (hn : (En.right a && En.right b) = false) (o : List Dl) (ho : o = []) :
    Calls Tryd.prog 8 #[.slice A1 a.length c1, .slice A2 b.length c2] w (LEnd dlE 37 o w) := by
  subst ho
  have e1 := hid_calls (encode_any A1 c1 a w h1 (by omega))
  have e2 := fun W h => hid_calls (encode_any A2 c2 b W h (by omega))
  cases hra : En.right a with
  | false =>
    rw [hra] at e1
    generalize En.right b = rb at *
    clear hra hn
    go_enter Tryd.func8, Tryd.ntmps8
    go_wp2_with fail
    refine e1.out.mono ?_
    rintro e w1 ⟨S1, rfl, b1⟩
    have r2 := h2.up b1
    unfold encErr
    go_wp2_with fail
    refine (e2 _ r2).out.mono ?_
    rintro e w2 ⟨S2, rfl, b2⟩
    unfold encErr
    go_wp2
    all_goals
      go_ret
      exact ⟨_, rfl, LO.nil_ _ _, b1.trans (b2.mono b1.size)⟩
  | true =>
    rw [hra] at hn e1
    have hrb : En.right b = false := by simpa using hn
    rw [hrb] at e2
    clear hra hn hrb
    go_enter Tryd.func8, Tryd.ntmps8
    go_wp2_with fail
    refine e1.out.mono ?_
    rintro e w1 ⟨S1, rfl, b1⟩
    have r2 := h2.up b1
    unfold encErr
    go_wp2_with fail
    refine (e2 _ r2).out.mono ?_
    rintro e w2 ⟨S2, rfl, b2⟩
    unfold encErr
    go_wp2
    all_goals
      go_ret
      exact ⟨_, rfl, LO.nil_ _ _, b1.trans (b2.mono b1.size)⟩
set_option maxRecDepth 100000 in
set_option maxHeartbeats 2000000 in
theorem lists_yes (A1 A2 : Option Addr) (c1 c2 : Nat) (a b : List Ent) (w : World) (h1 : LS entE w w.heap.size A1 a) (h2 : LS entE w w.heap.size A2 b) (ha : a.length ≤ 1000) (hb : b.length ≤ 1000) (hra : En.right a = true) (hrb : En.right b = true) (o : List Dl) (ho : o = En.mergeD a b) :
    Calls Tryd.prog 8 #[.slice A1 a.length c1, .slice A2 b.length c2] w (LEnd dlE 37 o w) := by
  have HO := Lib.hid ho
  clear ho
  have e1 := hid_calls (encode_any A1 c1 a w h1 (by omega))
  have e2 := fun W h => hid_calls (encode_any A2 c2 b W h (by omega))
  rw [hra] at e1
  rw [hrb] at e2
  have f1 := fun W h => hid_calls (whole_any A1 c1 a (by omega) W h)
  have f2 := fun W h => hid_calls (whole_any A2 c2 b (by omega) W h)
  clear hra hrb
  go_enter Tryd.func8, Tryd.ntmps8
  go_wp2_with fail
  refine e1.out.mono ?_
  rintro e w1 ⟨S1, rfl, b1⟩
  have r2 := h2.up b1
  have r1 := h1.up b1
  unfold encErr
  go_wp2_with fail
  refine (e2 _ r2).out.mono ?_
  rintro e w2 ⟨S2, rfl, b2⟩
  have q2 := r2.up b2
  have q1 := r1.up b2
  have bb2 := b1.trans (b2.mono b1.size)
  unfold encErr
  clear e1 e2 b1 b2 r1 r2 h1 h2
  go_wp2_with fail
  refine (f1 _ q1).out.mono ?_
  rintro e w3 ⟨v1, rfl, sa, b3⟩
  have q3 := q2.up b3
  have bb3 := bb2.trans (b3.mono bb2.size)
  go_wp2_with fail
  refine (f2 _ q3).out.mono ?_
  rintro e w4 ⟨v2, rfl, sb, b4⟩
  have sa4 : SideV w4 w.heap.size v1 a := LO.lower (LO.below sa b4) bb2.size
  have sb4 : SideV w4 w.heap.size v2 b := LO.lower sb bb3.size
  have bb4 := bb3.trans (b4.mono bb3.size)
  clear f1 f2 q1 q2 q3 sa sb b3 b4 bb2 bb3
  have hP0 : PairAt (w4.alloc (.cells #[.pointer none, v1, .pointer none, v2, .slice none 0 0] 50)) w4.heap.size w.heap.size a b [] :=
    ⟨v1, v2, .slice none 0 0, Blk.new w4 _ _, LO.alloc sa4 _, LO.alloc sb4 _, LO.nil_ _ _⟩
  have hb0 := bb4.alloc bb4.size (.cells #[.pointer none, v1, .pointer none, v2, .slice none 0 0] 50)
  obtain ⟨A1', c1', rfl⟩ := LO.form sa4
  obtain ⟨A2', c2', rfl⟩ := LO.form sb4
  rw [List.length_reverse, List.length_reverse] at hP0 hb0
  have hgg : w.heap.size ≤ w4.heap.size := bb4.size
  clear sa4 sb4
  have hstep := fun (a' b' : List Ent) (out' : List Dl) (W : World) (h : PairAt W w4.heap.size w.heap.size a' b' out') (hB : w.heap.size ≤ W.heap.size) (h1 : a'.length ≤ 1000) (h2 : b'.length ≤ 1000) (h3 : out'.length ≤ 100000) => hid_calls (step_any w4.heap.size w.heap.size a' b' out' W h hgg hB (by omega) (by omega) h3)
  go_wp2
  generalize w4.heap.size = g at *
  go_loopg [10] (a.length + b.length + 1) (fun k d wr => ∃ (on : Bool) (a' b' : List Ent) (out' : List Dl), d = .bool on ∧ PairAt wr g w.heap.size a' b' out' ∧ Below w.heap.size w wr ∧ Hid (o = out' ++ En.mergeD a' b') ∧ (on = false → a' = [] ∧ b' = []) ∧ a'.length ≤ 1000 ∧ b'.length ≤ 1000 ∧ out'.length + k ≤ 2001 ∧ a'.length + b'.length + (if on then 1 else 0) ≤ k)
  case atStart => exact ⟨true, a, b, [], rfl, hP0, hb0, Lib.hid HO.out, fun e => (by cases e), ha, hb, by simp; omega, by simp⟩
  case round =>
    obtain ⟨on, a', b', out', rfl, hP, hbe, HJ, hfin, hla, hlb, hlo, hlk⟩ := hrel
    cases on with
    | true =>
      simp only [if_true] at hlk
      go_wp2_with fail
      refine (hstep a' b' out' _ hP hbe.size hla hlb (by omega)).out.mono ?_
      rintro e w5 ⟨on2, a2, b2, out2, rfl, hP2, hbe2, heq, hdec, hfin2, hl1, hl2, hl3⟩
      have HEQ := Lib.hid heq
      clear heq
      cases on2 with
      | true =>
        have hdec := hdec rfl
        clear hfin hfin2
        go_wp2
        go_roundg (a2.length + b2.length + 1)
        case measure => omega
        case rel => exact ⟨true, a2, b2, out2, rfl, hP2, hbe.trans hbe2, Lib.hid (by rw [HEQ.out, ← HJ.out]), fun e => (by cases e), by omega, by omega, by omega, by simp⟩
      | false =>
        obtain ⟨rfl, rfl⟩ := hfin2 rfl
        clear hdec hfin
        go_wp2
        go_roundg 0
        case measure => omega
        case rel => exact ⟨false, [], [], out2, rfl, hP2, hbe.trans hbe2, Lib.hid (by rw [HEQ.out, ← HJ.out]), fun _ => ⟨rfl, rfl⟩, by simp, by simp, by omega, by simp⟩
    | false =>
      obtain ⟨rfl, rfl⟩ := hfin rfl
      obtain ⟨vo, hc4, hown⟩ := hP.out_
      have hlt := hP.lt
      have e := HJ.out
      rw [En.merge_nil, List.append_nil] at e
      have HE := Lib.hid e
      clear e hfin
      go_wp2
      go_ret
      exact ⟨_, rfl, by rw [HE.out]; exact hown, hbe⟩
theorem lists_any (A1 A2 : Option Addr) (c1 c2 : Nat) (a b : List Ent) (w : World) (h1 : LS entE w w.heap.size A1 a) (h2 : LS entE w w.heap.size A2 b) (ha : a.length ≤ 1000) (hb : b.length ≤ 1000) :
    Calls Tryd.prog 8 #[.slice A1 a.length c1, .slice A2 b.length c2] w (LEnd dlE 37 (told a b) w) := by
  cases h : En.right a && En.right b with
  | false => exact lists_no A1 A2 c1 c2 a b w h1 h2 ha hb h _ (by unfold told; rw [h]; rfl)
  | true =>
    have h' : En.right a = true ∧ En.right b = true := by simpa using h
    exact lists_yes A1 A2 c1 c2 a b w h1 h2 ha hb h'.1 h'.2 _ (by unfold told; rw [h]; rfl)
end Go.Proofs.YtknlcfiphkbbaaaDoor
