/- The walks of codec.Text, entry.Encode. -/
import Derived.Test.YtknlcfiphkbbaaaDoorEnt2
namespace Go.Proofs.YtknlcfiphkbbaaaDoor
open Go.RowKit
def TextEnd (n : Nat) (w : World) (e : Ending) (w' : World) : Prop := ∃ S : ByteArray, S.size = n + 1 ∧ e = .returned (.tuple #[.string S, .int .i64 0]) ∧ Below w.heap.size w w'
set_option maxRecDepth 100000 in
set_option maxHeartbeats 400000 in
theorem text_any (s : ByteArray) (hs : s.size ≤ 255) (w : World) : Calls Tryd.prog 25 #[.string s] w (TextEnd s.size w) := by
  have hc := fun W x => str_of_new (P := Tryd.prog) (src := 75) (dst := 9) W x 5 1 Tryd.underlying75 Tryd.underlying5 Tryd.underlying9
  go_enter Tryd.func25, Tryd.ntmps25
  go_wp2
  go_ret2
  exact ⟨_, by rw [ByteArray.size_append, Nat.add_comm]; rfl, rfl, (Below.refl _ _).alloc (Nat.le_refl _) _⟩
def encErr (r : Bool) : Int := if r then 0 else 1
def EncEnd (r : Bool) (w : World) (e : Ending) (w' : World) : Prop := ∃ S : ByteArray, e = .returned (.tuple #[.string S, .int .i64 (encErr r)]) ∧ Below w.heap.size w w'
set_option maxRecDepth 100000 in
set_option maxHeartbeats 1000000 in
theorem encode_any (A : Option Addr) (c : Nat) (l : List Ent) (w : World) (hr : LS entE w w.heap.size A l) (hl : l.length ≤ 100000) :
    Calls Tryd.prog 15 #[.slice A l.length c] w (EncEnd (En.right l) w) := by
  have hR := hid_calls (right_any A c l w hr (by omega))
  cases hrt : En.right l with
  | false =>
    rw [hrt] at hR
    clear hrt
    go_enter Tryd.func15, Tryd.ntmps15
    go_wp2_with fail
    refine hR.out.mono ?_
    rintro e w1 ⟨rfl, b1⟩
    go_wp2
    go_ret2
    exact ⟨_, rfl, b1⟩
  | true =>
    rw [hrt] at hR
    have hmay := ((En.right_iff l).1 hrt).1
    have HM := Lib.hid hmay
    clear hrt hmay
    go_enter Tryd.func15, Tryd.ntmps15
    go_wp2_with fail
    refine hR.out.mono ?_
    rintro e w1 ⟨rfl, b1⟩
    have hr1 := hr.up b1
    clear hR
    go_wp2
    go_loopw [4, 16] (fun s i wr => ∃ (k : Nat) (S : ByteArray), k ≤ l.length ∧ i = .int .i64 k ∧ s = .string S ∧ S.size ≤ 100 * k ∧ Below w1.heap.size w1 wr) (fun _ i _ => l.length - (intOf i).toNat)
    case atStart => exact ⟨0, ⟨#[]⟩, by omega, rfl, rfl, by simp [ByteArray.size], Below.refl _ _⟩
    case round =>
      obtain ⟨k, S, hk, rfl, rfl, hS, hbe⟩ := hrel
      by_cases hlt : k < l.length
      · obtain ⟨b2, o2, rfl, hb2, g0, g1⟩ := (hr1.below hbe).ent hlt
        have hm := HM.out _ (List.getElem_mem hlt)
        generalize l[k] = x at *
        unfold En.may at hm
        simp only [Bool.and_eq_true, decide_eq_true_eq] at hm
        obtain ⟨⟨m1, m2⟩, m3⟩ := hm
        have t1 := fun W => hid_calls (text_any x.1 (by omega) W)
        have t2 := fun W => hid_calls (text_any x.2 (by omega) W)
        have hb2' : b2 < wr.heap.size := by have := hbe.size; omega
        go_wp2_with fail
        refine (t1 _).out.mono ?_
        rintro e w2 ⟨S1, hs1, rfl, hb3⟩
        have hbx := Blk.new wr 39 #[.string x.1, .string x.2]
        have hby := hbx.below hb3 hbx.lt
        have y1 := hby.cell 1
        have hly := hby.lt
        have hbe2 := (hbe.alloc hbe.size (.cells #[.string x.1, .string x.2] 39)).trans (hb3.mono (by have := hbe.size; simp; omega))
        clear hbx hby hb3
        go_wp2_with fail
        refine (t2 _).out.mono ?_
        rintro e w3 ⟨S2, hs2, rfl, hb3⟩
        have hbe3 := hbe2.trans (hb3.mono hbe2.size)
        clear hb3
        have hsz : (S.size : Int) + ((S1.size : Int) + S2.size) ≤ 1000000000 := by omega
        have hsz2 : (S1.size : Int) + S2.size ≤ 1000000000 := by omega
        go_wp2
        go_roundw
        case rel => exact ⟨k + 1, _, by omega, by go_num, rfl, by rw [ByteArray.size_append, ByteArray.size_append]; omega, hbe3⟩
        case measure => simp [intOf]; omega
      · obtain rfl : k = l.length := by omega
        go_wp2
        go_ret2
        exact ⟨_, rfl, b1.trans (hbe.mono b1.size)⟩
end Go.Proofs.YtknlcfiphkbbaaaDoor
