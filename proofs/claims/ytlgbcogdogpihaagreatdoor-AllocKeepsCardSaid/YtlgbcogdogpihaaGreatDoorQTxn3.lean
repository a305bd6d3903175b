/- The walks of alloc's Drop, Put. -/
import Derived.Test.YtlgbcogdogpihaaGreatDoorQTxn2
namespace Go.Proofs.YtlgbcogdogpihaaGreatDoor
open Go.RowKit Go.Shelf
section
variable {w w' : World} {t m f n k : Nat} {free : List Run} {pages : Int} {D : DataW Value}
theorem Txn.del (h : Txn w t m f n free pages k D) {id : Int} (hid : (Lit.int .i64 id).wf = true) (ty : TypeId) :
    ∃ w', (Builtin.delete_ #[115, 3] ty #[.map (some m), .int .i64 id]).run Tryz.prog w = .ok (.tuple #[]) w' ∧ Txn w' t m f n free pages k (D.del (.int .i64 id)) ∧ w.grownBy w' (some m) := by
  obtain ⟨w', h1, h2, h3⟩ := h.map.drop keyedI Tryz.underlying115 (keyI hid) ty
  exact ⟨w', h1, h.turn h3.grown h2, h3.grown⟩
end
def dropF (free : List Run) (D : DataW Value) (id : Int) : List Run := if Maps.has D (.int .i64 id) then Rp.union free [(id, id)] else free
def DropEnd (t m f n : Nat) (fr : List Run) (pages : Int) (k : Nat) (D' : DataW Value) (w : World) (e : Ending) (w' : World) : Prop :=
  e = .returned (.tuple #[]) ∧ Touch t m w w' ∧ Txn w' t m f n fr pages k D'
set_option maxRecDepth 100000 in
set_option maxHeartbeats 800000 in
theorem tdrop_yes (t m f n k : Nat) (free : List Run) (pages : Int) (D : DataW Value) (id : Int) (hid : (Lit.int .i64 id).wf = true) (hl : free.length ≤ 80000) (hh : Maps.has D (.int .i64 id) = true) (w : World) (h : Txn w t m f n free pages k D) :
    Calls Tryz.prog 61 #[.pointer (some ⟨t, 0, none⟩), .int .i64 id] w (DropEnd t m f n (Rp.union free [(id, id)]) pages k (D.del (.int .i64 id)) w) := by
  have hF := hid_calls (tfresh_any t m f n k free pages D id hid w h)
  rw [hh] at hF
  have hT := h
  obtain ⟨_, ⟨v, h2, h3⟩, _⟩ := h
  obtain ⟨A, c, rfl⟩ := h3.form
  have hlt := h2.lt
  have hRm := fun W h => hid_calls (add_any A c free id W h (by omega))
  generalize Rp.union free [(id, id)] = fr at *
  go_enter Tryz.func61, Tryz.ntmps61
  go_wp2_with fail
  refine hF.out.mono ?_
  rintro e w1 ⟨rfl, b1⟩
  have hT1 := hT.below b1
  have h21 := h2.below b1 hlt
  have hlt1 := h21.lt
  have hc3 := h21.cell 3
  obtain ⟨w2, hrun, hT2, hg2⟩ := hT1.del hid 0
  have h22 := h21.keep hg2 (fun r e => by
    cases e
    obtain ⟨es, cl, hm0, _⟩ := hT1.map
    exact ⟨_, hm0, fun cs e => by cases e⟩)
  have h3w1 := h3.keep (only_of_below b1 none) (fun r e => by cases e)
  have h32 := h3w1.keep hg2 (fun r e => by
    cases e
    obtain ⟨es, cl, hm0, _⟩ := hT1.map
    exact ⟨_, hm0, fun cs e => by cases e⟩)
  have hlt2 := h22.lt
  have hc1 := h22.cell 1
  go_wp2_with fail
  refine (hRm w2 h32.rs).out.mono ?_
  intro e w3 he
  obtain ⟨A2, c2, rfl, ho2, r2, b2⟩ := he.open_
  clear he hRm hF
  have ho0 : Own w3 0 (.slice A2 fr.length c2) fr := ho2.lower (Nat.zero_le _)
  have hT3 := (hT2.below b2).setFree ho0
  have h23 := h22.below b2 hlt2
  have hlt3 := h23.lt
  have hcc1 := h23.cell 1
  have hcf := h23.frozen 1
  have hTo := ((Touch.of_below (t := t) (m := m) b1).trans (Touch.of_grown hg2 (.inr rfl))).trans ((Touch.of_below b2).trans (Touch.set_ (i := 1) (.slice A2 fr.length c2)))
  clear hT hT1 hT2 h2 h3 h21 h3w1 h32 ho0 ho2 r2 b1 b2 hg2
  go_wp2
  go_end0
  exact ⟨rfl, hTo, hT3⟩
set_option maxRecDepth 100000 in
set_option maxHeartbeats 800000 in
theorem tdrop_no (t m f n k : Nat) (free : List Run) (pages : Int) (D : DataW Value) (id : Int) (hid : (Lit.int .i64 id).wf = true) (hh : Maps.has D (.int .i64 id) = false) (w : World) (h : Txn w t m f n free pages k D) :
    Calls Tryz.prog 61 #[.pointer (some ⟨t, 0, none⟩), .int .i64 id] w (DropEnd t m f n free pages k D w) := by
  have hF := hid_calls (tfresh_any t m f n k free pages D id hid w h)
  rw [hh] at hF
  go_enter Tryz.func61, Tryz.ntmps61
  go_wp2_with fail
  refine hF.out.mono ?_
  rintro e w1 ⟨rfl, b1⟩
  have hT1 := h.below b1
  go_wp2
  go_end0
  exact ⟨rfl, Touch.of_below b1, hT1⟩
def dropD (D : DataW Value) (id : Int) : DataW Value := if Maps.has D (.int .i64 id) then D.del (.int .i64 id) else D
theorem tdrop_any (t m f n k : Nat) (free : List Run) (pages : Int) (D : DataW Value) (id : Int) (hid : (Lit.int .i64 id).wf = true) (hl : free.length ≤ 80000) (w : World) (h : Txn w t m f n free pages k D) :
    Calls Tryz.prog 61 #[.pointer (some ⟨t, 0, none⟩), .int .i64 id] w (DropEnd t m f n (dropF free D id) pages k (dropD D id) w) := by
  cases hh : Maps.has D (.int .i64 id) with
  | true => rw [show dropF free D id = Rp.union free [(id, id)] by unfold dropF; rw [hh]; rfl, show dropD D id = D.del (.int .i64 id) by unfold dropD; rw [hh]; rfl]; exact tdrop_yes t m f n k free pages D id hid hl hh w h
  | false => rw [show dropF free D id = free by unfold dropF; rw [hh]; rfl, show dropD D id = D by unfold dropD; rw [hh]; rfl]; exact tdrop_no t m f n k free pages D id hid hh w h
def PutEnd (E : Int) (t m f n : Nat) (free : List Run) (pages : Int) (k : Nat) (D' : DataW Value) (w : World) (e : Ending) (w' : World) : Prop :=
  e = .returned (.int .i64 E) ∧ Touch t m w w' ∧ Txn w' t m f n free pages k D'
set_option maxRecDepth 100000 in
set_option maxHeartbeats 800000 in
theorem tput_no (t m f n k : Nat) (free : List Run) (pages : Int) (D : DataW Value) (id q : Int) (s : ByteArray) (hid : (Lit.int .i64 id).wf = true) (hh : Maps.has D (.int .i64 id) = false) (w : World) (h : Txn w t m f n free pages k D) :
    Calls Tryz.prog 30 #[.pointer (some ⟨t, 0, none⟩), .int .i64 id, .int .u8 q, .string s] w (PutEnd 1 t m f n free pages k D w) := by
  have hF := hid_calls (tfresh_any t m f n k free pages D id hid w h)
  rw [hh] at hF
  go_enter Tryz.func30, Tryz.ntmps30
  go_wp2_with fail
  refine hF.out.mono ?_
  rintro e w1 ⟨rfl, b1⟩
  have hT1 := h.below b1
  go_wp2
  go_ret
  exact ⟨rfl, Touch.of_below b1, hT1⟩
set_option maxRecDepth 100000 in
set_option maxHeartbeats 800000 in
theorem tput_long (t m f n k : Nat) (free : List Run) (pages : Int) (D : DataW Value) (id q : Int) (s : ByteArray) (hid : (Lit.int .i64 id).wf = true) (hh : Maps.has D (.int .i64 id) = true) (hs : 240 < s.size) (w : World) (h : Txn w t m f n free pages k D) :
    Calls Tryz.prog 30 #[.pointer (some ⟨t, 0, none⟩), .int .i64 id, .int .u8 q, .string s] w (PutEnd 50 t m f n free pages k D w) := by
  have hF := hid_calls (tfresh_any t m f n k free pages D id hid w h)
  rw [hh] at hF
  go_enter Tryz.func30, Tryz.ntmps30
  go_wp2_with fail
  refine hF.out.mono ?_
  rintro e w1 ⟨rfl, b1⟩
  have hT1 := h.below b1
  go_wp2
  go_ret
  exact ⟨rfl, Touch.of_below b1, hT1⟩
set_option maxRecDepth 100000 in
set_option maxHeartbeats 800000 in
theorem tput_yes (t m f n k : Nat) (free : List Run) (pages : Int) (D : DataW Value) (id q : Int) (s : ByteArray) (hid : (Lit.int .i64 id).wf = true) (hk : k < maxLen) (hh : Maps.has D (.int .i64 id) = true) (hs : s.size ≤ 240) (w : World) (h : Txn w t m f n free pages k D) :
    Calls Tryz.prog 30 #[.pointer (some ⟨t, 0, none⟩), .int .i64 id, .int .u8 q, .string s] w (PutEnd 0 t m f n free pages (k + 1) (D.put (.int .i64 id) (.held (content true q s))) w) := by
  have hF := hid_calls (tfresh_any t m f n k free pages D id hid w h)
  rw [hh] at hF
  have hT := h
  obtain ⟨_, ⟨v, h2, h3⟩, _⟩ := h
  go_enter Tryz.func30, Tryz.ntmps30
  go_wp2_with fail
  refine hF.out.mono ?_
  rintro e w1 ⟨rfl, b1⟩
  have hT1 := hT.below b1
  have h21 := h2.below b1 h2.lt
  have hlt1 := h21.lt
  have hc3 := h21.cell 3
  obtain ⟨w2, hrun, hT2, hg2⟩ := hT1.store hk hid true q s
  have hTo := (Touch.of_below (t := t) b1).trans (Touch.of_grown hg2 (.inr rfl))
  clear hT hT1 h2 h3 h21 hg2 b1
  go_wp2
  go_ret
  exact ⟨rfl, hTo, hT2⟩
end Go.Proofs.YtlgbcogdogpihaaGreatDoor
