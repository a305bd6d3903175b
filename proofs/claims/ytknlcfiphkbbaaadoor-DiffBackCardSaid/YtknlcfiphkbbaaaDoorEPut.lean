/- The walks of entry.Put, Delete. -/
import Derived.Test.YtknlcfiphkbbaaaDoorFind
import Derived.Test.YtknlcfiphkbbaaaDoorDiffP
import Derived.Deep.RegionHeld3
import Derived.Deep.RegionLaw
namespace Go.Proofs.YtknlcfiphkbbaaaDoor
open Go.RowKit Go.Shelf
/-- a slice value that reads as a list, its capacity known to be enough -/
structure SV {α : Type} (E : Enc α) (w : World) (A : Option Addr) (c : Nat) (l : List α) : Prop where
  ls : LS E w w.heap.size A l
  le : l.length ≤ c
  nil_ : A = none → c = 0
theorem SV.up {α : Type} {E : Enc α} {w w' : World} {A : Option Addr} {c : Nat} {l : List α} (h : SV E w A c l) (hb : Below w.heap.size w w') : SV E w' A c l := ⟨h.ls.up hb, h.le, h.nil_⟩
theorem LO.sv {α : Type} {E : Enc α} {ty : TypeId} {w : World} {base n : Nat} {A : Option Addr} {c : Nat} {l : List α} (h : LO E ty w base (.slice A n c) l) : SV E w A c l := by
  refine ⟨h.ls, ?_, ?_⟩
  · rcases h.2 with ⟨e, h0⟩ | ⟨g, cap, cur, e, _, _, hn, _⟩
    · omega
    · injection e with _ _ e3; subst e3; exact hn
  · rintro rfl
    rcases h.2 with ⟨e, h0⟩ | ⟨g, cap, cur, e, _⟩
    · injection e
    · injection e with e1; cases e1
/-- how a function that gives a list back, that came in or is new, ends -/
def GiveEnd {α : Type} (E : Enc α) (o : List α) (w : World) (e : Ending) (w' : World) : Prop := ∃ A c, e = .returned (.slice A o.length c) ∧ SV E w' A c o ∧ Below w.heap.size w w'
theorem GiveEnd.of_eq {α : Type} {E : Enc α} {o : List α} {w w' : World} {A : Option Addr} {c n : Nat} (hn : o.length = n) (h : SV E w' A c o) (hb : Below w.heap.size w w') : GiveEnd E o w (.returned (.slice A n c)) w' := by subst hn; exact ⟨A, c, rfl, h, hb⟩
theorem cells_set (l : List Ent) (i : Nat) (k v : ByteArray) : ((entE.cells l).set (i * 2) (.string k)).set (i * 2 + 1) (.string v) = entE.cells (l.set i (k, v)) := by
  induction l generalizing i with
  | nil => simp [Enc.cells]
  | cons x l ih =>
    rw [entE.cells_cons]
    have e : entE.enc x = [.string x.1, .string x.2] := rfl
    rw [e]
    cases i with
    | zero => simp [Enc.cells_cons, entE]
    | succ i =>
      have h := ih i
      rw [show (i + 1) * 2 = i * 2 + 1 + 1 by omega]
      simp only [List.cons_append, List.nil_append, List.set_cons_succ, h]
      rw [entE.cells_cons]; rfl
/-- a cut at an index, laid ahead of a walk -/
theorem size_ent (W : World) : (sizeOf (Tryd.prog.elem 22)).run Tryd.prog W = .ok 2 W := by kernel_rfl
theorem und_ent : Tryd.prog.underlying 22 = some (.slice (Tryd.prog.elem 22)) := by kernel_rfl
theorem cut_to (A : Option Addr) (n c i : Nat) (hi : i ≤ n) (hc : n ≤ c) (W : World) : (Instr.slice 22 (.slice A n c) none (some (.int .i64 i)) (some (.int .i64 i))).run Tryd.prog W = .ok (.slice A i i) W := by
  rw [run_slice_hm W 22 A n c und_ent .i64 .i64 (i : Int) (i : Int) (by omega) (Int.le_refl _) (by omega), size_ent]
  simp only [Result.andThen_ok, sliced, Int.toNat_natCast, Nat.zero_mul, Nat.sub_zero]
  have e : (if i = 0 then A else A.map (·.add 0)) = A := by
    split
    · rfl
    · cases A <;> rfl
  rw [e]
theorem cut_from (A : Option Addr) (n c i : Nat) (x : Int) (hx : x = i) (hi : i ≤ n) (W : World) : (Instr.slice 22 (.slice A n c) (some (.int .i64 x)) none none).run Tryd.prog W = .ok (.slice (if c = i then A else A.map (·.add (i * 2))) (n - i) (c - i)) W := by
  subst hx
  rw [run_slice_l W 22 A n c und_ent .i64 (i : Int) (by omega) (by omega), size_ent]
  simp only [Result.andThen_ok, sliced, Int.toNat_natCast]
/-- what of a list stands behind an index -/
theorem SV.cut {w : World} {A : Option Addr} {c : Nat} {l : List Ent} (h : SV entE w A c l) {i : Nat} (hi : i ≤ l.length) : LS entE w w.heap.size (if c = i then A else A.map (·.add (i * 2))) (l.drop i) := h.ls.cut hi h.le
set_option maxRecDepth 100000 in
set_option maxHeartbeats 1000000 in
theorem eput_not (A : Option Addr) (c : Nat) (l : List Ent) (k v : ByteArray) (w : World) (hr : SV entE w A c l) (hl : l.length ≤ 100000) (h : (En.right l && En.may k v) = false) :
    Calls Tryd.prog 20 #[.slice A l.length c, .string k, .string v] w (GiveEnd entE l w) := by
  have hR := hid_calls (right_any A c l w hr.ls (by omega))
  cases hrt : En.right l with
  | false =>
    rw [hrt] at hR
    clear hrt h
    go_enter Tryd.func20, Tryd.ntmps20
    go_wp2_with fail
    refine hR.out.mono ?_
    rintro e w1 ⟨rfl, b1⟩
    go_wp2
    go_ret
    exact ⟨A, c, rfl, hr.up b1, b1⟩
  | true =>
    rw [hrt] at hR h
    have hm : En.may k v = false := by simpa using h
    have hC := fun W => hid_calls (check_any k v W)
    rw [chk_no hm] at hC
    clear hrt h hm
    go_enter Tryd.func20, Tryd.ntmps20
    go_wp2_with fail
    refine hR.out.mono ?_
    rintro e w1 ⟨rfl, b1⟩
    go_wp2_with fail
    refine (hC _).out.mono ?_
    rintro e w' ⟨rfl, hw⟩; subst hw
    go_wp2
    go_ret
    exact ⟨A, c, rfl, hr.up b1, b1⟩
set_option maxRecDepth 100000 in
set_option maxHeartbeats 2000000 in
theorem eput_yes (A : Option Addr) (c : Nat) (l : List Ent) (k v : ByteArray) (w : World) (hr : SV entE w A c l) (hl : l.length ≤ 100000) (hrt : En.right l = true) (hm : En.may k v = true) (o : List Ent) (ho : o = En.put l k v) :
    Calls Tryd.prog 20 #[.slice A l.length c, .string k, .string v] w (GiveEnd entE o w) := by
  have HO := Lib.hid ho
  clear ho
  have hR := hid_calls (right_any A c l w hr.ls (by omega))
  rw [hrt] at hR
  have hs := ((En.right_iff l).1 hrt).2
  have HS := Lib.hid hs
  have hC := fun W => hid_calls (check_any k v W)
  rw [chk_yes hm] at hC
  clear hrt hm hs
  have hF := fun W h => hid_calls (find_any A c l k W h (by omega))
  go_enter Tryd.func20, Tryd.ntmps20
  go_wp2_with fail
  refine hR.out.mono ?_
  rintro e w1 ⟨rfl, b1⟩
  have hr1 := hr.up b1
  go_wp2_with fail
  refine (hC _).out.mono ?_
  rintro e w' ⟨rfl, hw⟩; subst hw
  go_wp2_with fail
  refine (hF _ hr1.ls).out.mono ?_
  rintro e w2 ⟨i, fd, rfl, hi, hyes, hno, hlow, b2⟩
  have hr2 := hr1.up b2
  have bb := b1.trans (b2.mono b1.size)
  have HLOW := Lib.hid (hlow HS.out)
  clear hR hC hF hr1 hr b1 b2 hlow
  have hbX := bb.alloc bb.size (.cells #[.string k, .string v] 39)
  have hbA : Below w2.heap.size w2 (w2.alloc (.cells #[.string k, .string v] 39)) := (Below.refl _ w2).alloc (Nat.le_refl _) _
  have hrX := hr2.up hbA
  have hBX := Blk.new w2 39 #[.string k, .string v]
  cases fd with
  | true =>
    obtain ⟨hil, hik⟩ := hyes rfl
    have hp := (En.at_put HS.out (k := k) (v := v) hi HLOW.out.1 HLOW.out.2).1 hil hik
    have HP := Lib.hid hp.1
    have hCl := fun W h => hid_calls (eclone_any A c l W (fun e => by have h1 := hr2.nil_ e; have := hr2.le; omega) h (by omega))
    have hlt' : (i : Int) < l.length := by omega
    clear hno hik hp hyes hr2 hbA
    go_wp2_with fail
    refine (hCl _ hrX.ls).out.mono ?_
    intro e w3 he
    obtain ⟨A3, c3, rfl, ho3, _, b3⟩ := he.open_
    clear he hCl hrX
    have hBX3 := hBX.below b3 hBX.lt
    have bb3 := hbX.trans (b3.mono hbX.size)
    obtain ⟨g3, c4, hv3, hg3, hlt3⟩ := World.ownsRow.form ho3 (by omega)
    injection hv3 with e1 e2 e3
    subst e1 e3
    clear e2
    obtain ⟨g4, o4, e4, hg4, f0, f1⟩ := (ho3.ls).ent hil
    injection e4 with e4; injection e4 with e4 e5; subst e4 e5
    rw [Nat.zero_add] at f0 f1
    obtain ⟨cur, hcur⟩ := own_obj ho3 (r := g3) rfl
    have hgb := (World.ownsRow.lt ho3 g3 rfl).1
    have hBc : Blk w3 g3 39 cur := hcur
    have z0 := hBc.frozen (i * 2)
    have z1 := hBc.frozen (i * 2 + 1)
    have x0 := hBX3.cell 0
    have x1 := hBX3.cell 1
    have hltx := hBX3.lt
    have hst := (World.ownsRow.stored (World.ownsRow.stored ho3 (i * 2) (.string k)).1 (i * 2 + 1) (.string v)).1
    rw [cells_set] at hst
    have hset : LO entE 39 ((w3.setCell ⟨g3, i * 2, none⟩ (.string k)).setCell ⟨g3, i * 2 + 1, none⟩ (.string v)) (w2.alloc (.cells #[.string k, .string v] 39)).heap.size (.slice (some ⟨g3, 0, none⟩) l.length c3) (l.set i (k, v)) := by
      unfold LO; rw [List.length_set]; exact hst
    have hbe := (bb3.setCell (p := ⟨g3, i * 2, none⟩) (by show w.heap.size ≤ g3; have := bb.size; simp at hgb; omega) (.string k)).setCell (p := ⟨g3, i * 2 + 1, none⟩) (by show w.heap.size ≤ g3; have := bb.size; simp at hgb; omega) (.string v)
    have hsl : (l.set i (k, v)).length = l.length := List.length_set
    rw [HP.out] at hset hsl
    clear ho3 b3 hBX3 hBX hBc hst HP
    go_wp2
    go_ret
    exact GiveEnd.of_eq (by rw [HO.out]; exact hsl) (by rw [HO.out]; exact hset.sv) hbe
  | false =>
    have hp := (En.at_put HS.out (k := k) (v := v) hi HLOW.out.1 HLOW.out.2).2 (hno rfl)
    have HP := Lib.hid hp.1
    have hs1 := cut_to A l.length c i hi hr2.le
    have hs2 := cut_from A l.length c i (i : Int) rfl hi
    have hcut := hr2.cut hi
    have hnil := hr2.nil_
    have hle := hr2.le
    generalize (if c = i then A else A.map (·.add (i * 2))) = A2 at *
    clear hno hyes hp
    have hf1 : (i : Int) ≤ l.length := by omega
    have hS0 : (w2.alloc (.cells #[.string k, .string v] 39)).drew.cell? ⟨w2.heap.size, 0, none⟩ = some (.string k) ∧ (w2.alloc (.cells #[.string k, .string v] 39)).drew.cell? ⟨w2.heap.size, 1, none⟩ = some (.string v) := ⟨hBX.cell 0, hBX.cell 1⟩
    have hBY := Blk.new (w2.alloc (.cells #[.string k, .string v] 39)) 39 #[.string k, .string v]
    have hBZ := Blk.new ((w2.alloc (.cells #[.string k, .string v] 39)).alloc (.cells #[.string k, .string v] 39)) 22 #[.slice A i i, .slice (some ⟨w2.heap.size + 1, 0, none⟩) 1 1, .slice A2 (l.length - i) (c - i)]
    simp only [World.size_alloc] at hBY hBZ
    have bZ : Below w2.heap.size w2 (((w2.alloc (.cells #[.string k, .string v] 39)).alloc (.cells #[.string k, .string v] 39)).alloc (.cells #[.slice A i i, .slice (some ⟨w2.heap.size + 1, 0, none⟩) 1 1, .slice A2 (l.length - i) (c - i)] 22)).drew := ((((Below.refl _ w2).alloc (Nat.le_refl _) _).alloc (by simp) _).alloc (by simp; omega) _).drew
    have hS3 : (((w2.alloc (.cells #[.string k, .string v] 39)).alloc (.cells #[.string k, .string v] 39)).alloc (.cells #[.slice A i i, .slice (some ⟨w2.heap.size + 1, 0, none⟩) 1 1, .slice A2 (l.length - i) (c - i)] 22)).drew.cell? ⟨w2.heap.size, 0, none⟩ = some (.string k) ∧ (((w2.alloc (.cells #[.string k, .string v] 39)).alloc (.cells #[.string k, .string v] 39)).alloc (.cells #[.slice A i i, .slice (some ⟨w2.heap.size + 1, 0, none⟩) 1 1, .slice A2 (l.length - i) (c - i)] 22)).drew.cell? ⟨w2.heap.size, 1, none⟩ = some (.string v) :=
      ⟨((hBX.alloc _).alloc _).cell 0, ((hBX.alloc _).alloc _).cell 1⟩
    have hS2 : ((w2.alloc (.cells #[.string k, .string v] 39)).alloc (.cells #[.string k, .string v] 39)).drew.cell? ⟨w2.heap.size, 0, none⟩ = some (.string k) ∧ ((w2.alloc (.cells #[.string k, .string v] 39)).alloc (.cells #[.string k, .string v] 39)).drew.cell? ⟨w2.heap.size, 1, none⟩ = some (.string v) :=
      ⟨(hBX.alloc _).cell 0, (hBX.alloc _).cell 1⟩
    have e1 : (l.take i).length = i := by rw [List.length_take]; omega
    have hcl : conc [(A, i, l.take i), (some ⟨w2.heap.size + 1, 0, none⟩, 1, [(k, v)]), (A2, c - i, l.drop i)] = l.take i ++ (k, v) :: l.drop i := by simp [conc]
    have hCc := econcat_any (w2.heap.size + 1 + 1) 3 [(A, i, l.take i), (some ⟨w2.heap.size + 1, 0, none⟩, 1, [(k, v)]), (A2, c - i, l.drop i)] rfl (by omega) (((w2.alloc (.cells #[.string k, .string v] 39)).alloc (.cells #[.string k, .string v] 39)).alloc (.cells #[.slice A i i, .slice (some ⟨w2.heap.size + 1, 0, none⟩) 1 1, .slice A2 (l.length - i) (c - i)] 22)).drew
      (by
        show Blk _ _ _ #[.slice A (l.take i).length i, .slice (some ⟨w2.heap.size + 1, 0, none⟩) 1 1, .slice A2 (l.drop i).length (c - i)]
        rw [e1, List.length_drop]; exact hBZ)
      (by
        intro p hp
        simp only [List.mem_cons, List.not_mem_nil, or_false] at hp
        rcases hp with rfl | rfl | rfl
        · exact (hr2.ls.take_ i).up bZ
        · refine ⟨by simp [Enc.cells, entE], fun _ => ⟨_, rfl, by simp, fun j u hu => ?_⟩⟩
          rw [Addr.add_lit, Nat.zero_add]
          refine ((hBY.alloc _).cell j).trans ?_
          simpa [Enc.cells, entE] using hu
        · exact hcut.up bZ)
      (by rw [hcl, List.length_append, List.length_cons, List.length_drop, e1]; omega)
    rw [hcl, HP.out] at hCc
    have HCC := Lib.hid hCc
    clear hCc hcl e1 hcut hBY hBZ hr2 hrX hBX
    have hzz : w2.heap.size < (((w2.alloc (.cells #[.string k, .string v] 39)).alloc (.cells #[.string k, .string v] 39)).alloc (.cells #[.slice A i i, .slice (some ⟨w2.heap.size + 1, 0, none⟩) 1 1, .slice A2 (l.length - i) (c - i)] 22)).drew.heap.size := by simp; omega
    go_wp2_with fail
    go_region_held3 (fun W => W.cell? ⟨w2.heap.size, 0, none⟩ = some (.string k) ∧ W.cell? ⟨w2.heap.size, 1, none⟩ = some (.string v)) (first | exact hS0 | exact hS2 | exact hS3 | exact ⟨(b9.cell (p := ⟨w2.heap.size, 0, none⟩) hzz).trans hS3.1, (b9.cell (p := ⟨w2.heap.size, 1, none⟩) hzz).trans hS3.2⟩)
      (first | (go_at_call 35; refine HCC.out.mono ?_; intro e w9 he; obtain ⟨A9, c9, rfl, ho9, _, b9⟩ := he.open_))
    all_goals
      go_wp2
      go_ret
      exact GiveEnd.of_eq (by rw [HO.out]) (by rw [HO.out]; exact ho9.sv) (bb.trans ((bZ.trans (b9.mono bZ.size)).mono bb.size))
/-- a delta's two sides done -/
def putS (l : List Ent) (k v : ByteArray) : List Ent := if En.right l && En.may k v then En.put l k v else l
def delS (l : List Ent) (k : ByteArray) : List Ent := if En.right l then En.del l k else l
theorem eput_any (A : Option Addr) (c : Nat) (l : List Ent) (k v : ByteArray) (w : World) (hr : SV entE w A c l) (hl : l.length ≤ 100000) :
    Calls Tryd.prog 20 #[.slice A l.length c, .string k, .string v] w (GiveEnd entE (putS l k v) w) := by
  cases h : En.right l && En.may k v with
  | false =>
    have e : putS l k v = l := by unfold putS; rw [h]; rfl
    rw [e]; exact eput_not A c l k v w hr hl h
  | true =>
    have h' : En.right l = true ∧ En.may k v = true := by simpa using h
    exact eput_yes A c l k v w hr hl h'.1 h'.2 _ (by unfold putS; rw [h]; rfl)
set_option maxRecDepth 100000 in
set_option maxHeartbeats 2000000 in
theorem edel_any (A : Option Addr) (c : Nat) (l : List Ent) (k : ByteArray) (w : World) (hr : SV entE w A c l) (hl : l.length ≤ 100000) :
    Calls Tryd.prog 21 #[.slice A l.length c, .string k] w (GiveEnd entE (delS l k) w) := by
  obtain ⟨o, ho⟩ : ∃ o, o = delS l k := ⟨_, rfl⟩
  rw [← ho]
  have HO := Lib.hid ho
  clear ho
  have hF := hid_calls (find_any A c l k w hr.ls (by omega))
  have hR := fun W h => hid_calls (right_any A c l W h (by omega))
  cases hrt : En.right l with
  | false =>
    rw [hrt] at hR
    have hol : o = l := by rw [HO.out]; unfold delS; rw [hrt]; rfl
    have HOL := Lib.hid hol
    clear hrt hol HO
    go_enter Tryd.func21, Tryd.ntmps21
    go_wp2_with fail
    refine hF.out.mono ?_
    rintro e w1 ⟨i, fd, rfl, hi, hyes, hno, hlow, b1⟩
    have hr1 := hr.up b1
    clear hyes hno hlow hF
    cases fd with
    | false =>
      go_wp2
      go_ret
      exact GiveEnd.of_eq (by rw [HOL.out]) (by rw [HOL.out]; exact hr1) b1
    | true =>
      go_wp2_with fail
      refine (hR _ hr1.ls).out.mono ?_
      rintro e w2 ⟨rfl, b2⟩
      go_wp2
      go_ret
      exact GiveEnd.of_eq (by rw [HOL.out]) (by rw [HOL.out]; exact hr1.up b2) (b1.trans (b2.mono b1.size))
  | true =>
    rw [hrt] at hR
    have hs := ((En.right_iff l).1 hrt).2
    have hol : o = En.del l k := by rw [HO.out]; unfold delS; rw [hrt]; rfl
    have HOL := Lib.hid hol
    have HS := Lib.hid hs
    clear hrt hol HO hs
    go_enter Tryd.func21, Tryd.ntmps21
    go_wp2_with fail
    refine hF.out.mono ?_
    rintro e w1 ⟨i, fd, rfl, hi, hyes, hno, hlow, b1⟩
    have hr1 := hr.up b1
    have HLOW := Lib.hid (hlow HS.out)
    clear hlow hF
    cases fd with
    | false =>
      have hp := (En.at_put HS.out (k := k) (v := k) hi HLOW.out.1 HLOW.out.2).2 (hno rfl)
      have HP := Lib.hid hp.2
      clear hp hyes hno
      go_wp2
      go_ret
      exact GiveEnd.of_eq (by rw [HOL.out, HP.out]) (by rw [HOL.out, HP.out]; exact hr1) b1
    | true =>
      obtain ⟨hil, hik⟩ := hyes rfl
      have hp := (En.at_put HS.out (k := k) (v := k) hi HLOW.out.1 HLOW.out.2).1 hil hik
      have HP := Lib.hid hp.2
      clear hno hik hp hyes
      go_wp2_with fail
      refine (hR _ hr1.ls).out.mono ?_
      rintro e w2 ⟨rfl, b2⟩
      have hr2 := hr1.up b2
      have bb := b1.trans (b2.mono b1.size)
      clear hR hr1 hr b1 b2
      have hs1 := cut_to A l.length c i hi hr2.le
      have hs2 := cut_from A l.length c (i + 1) ((i : Int) + 1) (by omega) (by omega)
      have hcut := hr2.cut (i := i + 1) (by omega)
      have hle := hr2.le
      generalize (if c = i + 1 then A else A.map (·.add ((i + 1) * 2))) = A2 at *
      have hf1 : (i : Int) + 1 ≤ l.length := by omega
      have hw1 : IntKind.i64.wrap ((i : Int) + 1) = (i : Int) + 1 := IntWalk.i64_in _ (by omega)
      have hBZ := Blk.new w2 22 #[.slice A i i, .slice A2 (l.length - (i + 1)) (c - (i + 1))]
      have bZ : Below w2.heap.size w2 (w2.alloc (.cells #[.slice A i i, .slice A2 (l.length - (i + 1)) (c - (i + 1))] 22)).drew := ((Below.refl _ w2).alloc (Nat.le_refl _) _).drew
      have e1 : (l.take i).length = i := by rw [List.length_take]; omega
      have hcl : conc [(A, i, l.take i), (A2, c - (i + 1), l.drop (i + 1))] = l.take i ++ l.drop (i + 1) := by simp [conc]
      have hCc := econcat_any w2.heap.size 2 [(A, i, l.take i), (A2, c - (i + 1), l.drop (i + 1))] rfl (by omega) (w2.alloc (.cells #[.slice A i i, .slice A2 (l.length - (i + 1)) (c - (i + 1))] 22)).drew
        (by
          show Blk _ _ _ #[.slice A (l.take i).length i, .slice A2 (l.drop (i + 1)).length (c - (i + 1))]
          rw [e1, List.length_drop]; exact hBZ)
        (by
          intro p hp
          simp only [List.mem_cons, List.not_mem_nil, or_false] at hp
          rcases hp with rfl | rfl
          · exact (hr2.ls.take_ i).up bZ
          · exact hcut.up bZ)
        (by rw [hcl, List.length_append, List.length_drop, e1]; omega)
      rw [hcl, HP.out] at hCc
      have HCC := Lib.hid hCc
      clear hCc hcl e1 hcut hBZ hr2
      go_wp2_with fail
      go_region_held3 (fun _ => True) (trivial)
        (first | (go_at_call 35; refine HCC.out.mono ?_; intro e w9 he; obtain ⟨A9, c9, rfl, ho9, _, b9⟩ := he.open_))
      all_goals
        go_wp2
        go_ret
        exact GiveEnd.of_eq (by rw [HOL.out]) (by rw [HOL.out]; exact ho9.sv) (bb.trans ((bZ.trans (b9.mono bZ.size)).mono bb.size))
end Go.Proofs.YtknlcfiphkbbaaaDoor
