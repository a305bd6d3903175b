/- The walks of slices.Grow, Concat, Clone at entries; strings.Compare. The walks of entry.Find: a search by halves. Plain: what is different in two lists in order; deltas done. The walks of entry.Put, Delete. The walks of codec.Text, entry.Encode. Plain: nodes of a tree: which may be, sizes, bytes; half, split, join, swap. The walks of codec's Reader.Text, Err, codec.Text to the byte; of entry's Get, Size, Half, Encode, Decode. -/
import Derived.Deep.LoopGhost
import Derived.Deep.RegionHeld3
import Derived.Deep.RegionLaw
import Derived.Test.YtpfplojkiloldaaGreatDoorQ00
import Derived.Test.YtpfplojkiloldaaGreatDoorQ01
import Derived.Test.YtpfplojkiloldaaGreatDoorQ02
namespace Go.Proofs.YtpfplojkiloldaaGreatDoor
open Go.RowKit Go.Shelf
theorem cmp_any (a b : ByteArray) (w : World) : Calls Tryz.prog 117 #[.string a, .string b] w fun e w' => e = .returned (.int .i64 (Lib.compareBytes a.data.toList b.data.toList)) ∧ w' = w := Any.strings_Compare Tryz.lays106 a b w
theorem egrow_nil (n : Nat) (w : World) (hn : n ≤ 4000000) : Calls Tryz.prog 118 #[.slice none 0 0, .int .i64 n] w (LEnd entE 38 [] w) := by
  obtain ⟨i0, hi, hz0, hz1, hz2⟩ := eiEnt
  by_cases h0 : n = 0
  · subst h0
    refine Calls.mono (Any8.slices_Grow_room Tryz.growEnt none 0 0 0 w (by omega) (by omega) (by omega) (by omega)) ?_
    rintro e w' ⟨rfl, hw⟩
    subst hw
    exact ⟨_, rfl, LO.nil_ _ _, Below.refl _ _⟩
  · refine Calls.mono (Any8.slices_Grow_grow Tryz.growEnt i0 _ hi hz0 (by omega) none 0 0 n [] w (by omega) (by omega) (by rw [hz2]; omega) (by omega) (by simp) (fun _ => rfl) (fun a h => by cases h)) ?_
    rintro e w' ⟨rfl, rfl⟩
    refine ⟨_, rfl, ?_, ((Below.refl _ _).drew).alloc (Nat.le_refl _) _⟩
    refine World.ownsRow_made (base := w.heap.size) (e := 38) (size := 2) w.drew _ _ (Nat.le_refl _) (grownCap_le_maxLen w _ _ _ (by unfold maxLen; omega)) ?_
    rw [Array.size_append, Array.size_append, size_zeroCells, size_zeroCells]
    have h := grownCap_ge w (0 + n) 0 38
    have e1 : (Value.agg #[Value.string ⟨#[]⟩, Value.string ⟨#[]⟩]).cells.size = 2 := rfl
    have e2 : Tryz.growEnt_ren.t 25 = 38 := rfl
    rw [e1, e2]
    simp only [Nat.zero_add] at h ⊢
    simp
    omega
abbrev Part := Option Addr × Nat × List Ent
def conc (ps : List Part) : List Ent := ps.flatMap (·.2.2)
def partV (p : Part) : Value := .slice p.1 p.2.2.length p.2.1
theorem conc_succ (ps : List Part) (j : Nat) (hj : j < ps.length) : conc (ps.take (j + 1)) = conc (ps.take j) ++ ps[j].2.2 := by
  unfold conc; rw [List.take_succ_eq_append_getElem hj, List.flatMap_append]; simp
theorem conc_len (ps : List Part) (j : Nat) : (conc (ps.take j)).length ≤ (conc ps).length := by
  have e : conc ps = conc (ps.take j) ++ conc (ps.drop j) := by unfold conc; rw [← List.flatMap_append, List.take_append_drop]
  rw [e, List.length_append]; omega
set_option maxRecDepth 100000 in
set_option maxHeartbeats 1000000 in
theorem econcat_any (g n : Nat) (ps : List Part) (hn : ps.length = n) (hn2 : n ≤ 10) (w : World) (hB : Blk w g 32 (ps.map partV).toArray) (hls : ∀ p ∈ ps, LS entE w w.heap.size p.1 p.2.2) (hl : (conc ps).length ≤ 1000000) :
    Calls Tryz.prog 76 #[.slice (some ⟨g, 0, none⟩) n n] w (LEnd entE 38 (conc ps) w) := by
  obtain ⟨o, ho⟩ : ∃ o, o = conc ps := ⟨_, rfl⟩
  rw [← ho]
  have HO := Lib.hid ho
  have HLS := Lib.hid hls
  have HN := Lib.hid hn
  have hnp : ps.length ≤ 10 := by omega
  have hnp2 : ps.length ≤ n := by omega
  have hnp3 : n ≤ ps.length := by omega
  have hcell : ∀ j (hj : j < ps.length), w.cell? ⟨g, j, none⟩ = some (partV ps[j]) := fun j hj => by
    rw [hB.cell j]; simp [hj]
  have HC := Lib.hid hcell
  have hgl := hB.lt
  have hcl := fun j => conc_len ps j
  clear ho hls hn hcell hB
  go_enter Tryz.func76, Tryz.ntmps76
  go_wp2
  go_loop [3, 5, 11] (fun s _ i => ∃ j : Nat, j ≤ ps.length ∧ i = .int .i64 j ∧ s = .int .i64 ((conc (ps.take j)).length : Int)) (fun _ _ i => n - (intOf i).toNat)
  case atStart => exact ⟨0, by omega, rfl, rfl⟩
  case round =>
    obtain ⟨j, hj, rfl, rfl⟩ := hrel
    by_cases hlt : j < ps.length
    · have hlt2 : (j : Int) < n := by omega
      have c0 := HC.out j hlt
      have hs := congrArg List.length (conc_succ ps j hlt)
      rw [List.length_append] at hs
      have h1 := hcl (j + 1)
      unfold partV at c0
      generalize ps[j] = p at *
      obtain ⟨pA, pk, pl⟩ := p
      simp only at c0 hs
      have HS := Lib.hid hs
      have hb1 : ((conc (ps.take j)).length : Int) + pl.length ≤ 1000000 := by omega
      have hb0 : (0 : Int) ≤ ((conc (ps.take j)).length : Int) + pl.length := by omega
      clear hs
      generalize (conc (ps.take j)).length = s1 at *
      go_wp2
      go_round
      case rel => exact ⟨j + 1, by omega, by go_num, by rw [HS.out]; go_num⟩
      case measure => simp [intOf]; omega
    · obtain rfl : j = ps.length := by omega
      have hge : (n : Int) ≤ ps.length := by omega
      have hal : conc (ps.take ps.length) = conc ps := by rw [List.take_of_length_le (Nat.le_refl _)]
      rw [hal]
      have hgr := egrow_nil (conc ps).length w (by omega)
      have HG := Lib.hid hgr
      clear hgr
      have HAL := Lib.hid hal
      clear hal
      go_wp2_with fail
      refine HG.out.mono ?_
      rintro e w2 ⟨v, rfl, ho2, hb2⟩
      go_wp2
      go_loopw [6, 8, 27] (fun v _ i wr => ∃ j : Nat, j ≤ ps.length ∧ i = .int .i64 j ∧ Below w.heap.size w2 wr ∧ LO entE 38 wr w.heap.size v (conc (ps.take j))) (fun _ _ i _ => n - (intOf i).toNat)
      case atStart => exact ⟨0, by omega, rfl, Below.refl _ _, ho2⟩
      case round =>
        obtain ⟨j, hj, rfl, hbw, hown⟩ := hrel
        have hzz : w.heap.size ≤ wr.heap.size := Nat.le_trans hb2.size hbw.size
        have hbz := hb2.trans hbw
        by_cases hlt : j < ps.length
        · have hlt2 : (j : Int) < n := by omega
          have c0 := (hbz.cell (p := ⟨g, j, none⟩) hgl).trans (HC.out j hlt)
          have hls := HLS.out _ (List.getElem_mem hlt)
          have hcs := conc_succ ps j hlt
          have h1 := hcl (j + 1)
          rw [hcs, List.length_append] at h1
          unfold partV at c0
          have HCS := Lib.hid hcs
          clear hcs
          generalize ps[j] = p at *
          obtain ⟨pA, pk, pl⟩ := p
          simp only at c0 hls h1 HCS
          have s1 : LS entE wr wr.heap.size pA pl := (hls.below hbz).more hzz
          generalize conc (ps.take j) = cj at *
          have hraw := hown.raw rfl (s := 2) rfl
          have hgw : g < wr.heap.size := by omega
          go_wp2_with (at_builtin; refine wpList_appN rfl (.tmp 31) (.tmp 32) 32 rfl eiEnt Tryz.underlying32 rfl (by decide) rfl hraw rfl s1 (entE.cells_all _) (by unfold maxLen; omega) (by omega) hzz ?_; intro v' w3 hown' hgrow hbel)
          go_roundw
          case rel =>
            refine ⟨j + 1, by omega, by go_num, hbw.trans hbel, ?_⟩
            rw [HCS.out]
            unfold LO
            rw [entE.cells_append, List.length_append]; exact hown'
          case measure => simp [intOf]; omega
        · obtain rfl : j = ps.length := by omega
          go_wp2
          go_ret
          exact ⟨_, rfl, by rw [HO.out, ← HAL.out]; exact hown, hbz⟩
set_option maxRecDepth 100000 in
set_option maxHeartbeats 400000 in
theorem eclone_any (A : Option Addr) (c : Nat) (l : List Ent) (w : World) (hv : A = none → l.length = 0 ∧ c = 0) (hr : LS entE w w.heap.size A l) (hl : l.length ≤ 1000000) : Calls Tryz.prog 75 #[.slice A l.length c] w (LEnd entE 38 l w) := by
  have hn := fun W a n c => Lib.run_eql_slice_nil (P := Tryz.prog) W 32 38 a n c 0 0 Tryz.underlying32
  rcases A with _ | a
  · obtain ⟨h0, rfl⟩ := hv rfl
    have hl0 : l = [] := List.eq_nil_of_length_eq_zero h0
    subst hl0
    clear hv h0
    go_enter Tryz.func75, Tryz.ntmps75
    go_wp2
    go_ret
    exact ⟨_, rfl, LO.nil_ _ _, Below.refl _ _⟩
  · have hr2 : Reads (w.alloc (.cells #[] 38)) w.heap.size 2 (some a) l.length (entE.cells l) := Reads.alloc hr (Nat.le_refl _) _
    have hown := World.ownsRow_lit (base := w.heap.size) (e := 38) (size := 2) w #[] 0 (Nat.le_refl _) (by decide) rfl
    clear hv
    go_enter Tryz.func75, Tryz.ntmps75
    go_wp2_with (at_builtin; refine wpList_appN rfl (.tmp 5) (.tmp 6) 32 rfl eiEnt Tryz.underlying32 rfl (by decide) rfl hown rfl hr2 (entE.cells_all _) (by unfold maxLen; omega) (by omega) (by simp) ?_; intro v' w3 hown' hgrow hbel)
    go_ret
    exact ⟨_, rfl, by have h := hown'; simp only [Nat.zero_add, List.nil_append] at h; exact h, ((Below.refl _ _).alloc (Nat.le_refl _) _).trans hbel⟩
end Go.Proofs.YtpfplojkiloldaaGreatDoor
namespace Go.Proofs.YtpfplojkiloldaaGreatDoor
open Go.RowKit Go.Shelf
theorem cmpB : ∀ a b : List UInt8, Lib.compareBytes a b = if Op.bytesLess a b then -1 else if Op.bytesLess b a then 1 else 0
  | [], [] => rfl
  | [], _ :: _ => rfl
  | _ :: _, [] => rfl
  | x :: a, y :: b => by
    rw [Lib.compareBytes, cmpB a b]
    by_cases h1 : x < y
    · have h2 : ¬ y < x := by simp only [UInt8.lt_iff_toNat_lt] at *; omega
      simp [Op.bytesLess, h1]
    · by_cases h2 : y < x
      · have h3 : ¬ (x = y) := by rintro rfl; exact h1 h2
        simp [Op.bytesLess, h1, h2, h3]
      · have h3 : x = y := by
          apply UInt8.toNat_inj.1; simp only [UInt8.lt_iff_toNat_lt] at *; omega
        subst h3
        simp [Op.bytesLess, h1]
def cmpS (a b : ByteArray) : Int := Lib.compareBytes a.data.toList b.data.toList
theorem cmpS_eq (a b : ByteArray) : cmpS a b = if En.lt a b then -1 else if En.lt b a then 1 else 0 := by
  unfold cmpS En.lt
  rw [cmpB, Lib.toList_data, Lib.toList_data]
theorem cmpS_lt {a b : ByteArray} (h : En.lt a b = true) : cmpS a b = -1 := by rw [cmpS_eq, h]; rfl
theorem cmpS_eq0 (a : ByteArray) : cmpS a a = 0 := by rw [cmpS_eq, En.lt_irrefl]; rfl
theorem cmpS_gt {a b : ByteArray} (h : En.lt b a = true) : cmpS a b = 1 := by rw [cmpS_eq, En.lt_not h, h]; rfl
set_option maxRecDepth 100000 in
set_option maxHeartbeats 400000 in
theorem find1_any (x : Ent) (k : ByteArray) (w : World) : Calls Tryz.prog 116 #[.agg #[.string x.1, .string x.2], .string k] w fun e w' => e = .returned (.int .i64 (cmpS x.1 k)) ∧ Below w.heap.size w w' := by
  have hc := fun W => hid_calls (cmp_any x.1 k W)
  change ∀ W, Hid (Calls Tryz.prog 117 #[.string x.1, .string k] W fun e w' => e = .returned (.int .i64 (cmpS x.1 k)) ∧ w' = W) at hc
  generalize cmpS x.1 k = q at *
  go_enter Tryz.func116, Tryz.ntmps116
  go_wp2_with fail
  refine (hc _).out.mono ?_
  rintro e w' ⟨rfl, rfl⟩
  go_wp2
  go_ret
  exact ⟨rfl, (Below.refl _ _).alloc (Nat.le_refl _) _⟩
def Lower (l : List Ent) (k : ByteArray) (i : Nat) : Prop := (∀ j (hj : j < l.length), j < i → En.lt l[j].1 k = true) ∧ (∀ j (hj : j < l.length), i ≤ j → En.lt l[j].1 k = false)
def BsEnd (l : List Ent) (k : ByteArray) (w : World) (e : Ending) (w' : World) : Prop := ∃ (i : Nat) (fd : Bool), e = .returned (.tuple #[.int .i64 i, .bool fd]) ∧ i ≤ l.length ∧ (fd = true → ∃ h : i < l.length, l[i].1 = k) ∧ (fd = false → ∀ h : i < l.length, l[i].1 ≠ k) ∧ (En.Srt l → Lower l k i) ∧ Below w.heap.size w w'
theorem srt_lt {l : List Ent} (h : En.Srt l) {i j : Nat} (hij : i ≤ j) (hj : j < l.length) {k : ByteArray} (hk : En.lt l[j].1 k = true) : En.lt (l[i]'(by omega)).1 k = true := by
  by_cases e : i = j
  · subst e; exact hk
  · exact En.lt_trans (List.pairwise_iff_getElem.1 h i j (by omega) hj (by omega)) hk
theorem srt_ge {l : List Ent} (h : En.Srt l) {i j : Nat} (hij : i ≤ j) (hj : j < l.length) {k : ByteArray} (hk : En.lt (l[i]'(by omega)).1 k = false) : En.lt l[j].1 k = false := by
  cases hc : En.lt l[j].1 k with
  | false => rfl
  | true => rw [srt_lt h hij hj hc] at hk; cases hk
set_option maxRecDepth 100000 in
set_option maxHeartbeats 2000000 in
theorem bs_any (A : Option Addr) (c : Nat) (l : List Ent) (k : ByteArray) (w : World) (hr : LS entE w w.heap.size A l) (hl : l.length ≤ 1000000) :
    Calls Tryz.prog 115 #[.slice A l.length c, .string k, .func (.func 116) #[] #[]] w (BsEnd l k w) := by
  go_enter Tryz.func115, Tryz.ntmps115
  go_wp2
  go_loopg [9, 10, 11] l.length (fun g s7 s8 _ wr => ∃ lo hi : Nat, s7 = .int .i64 lo ∧ s8 = .int .i64 hi ∧ lo ≤ hi ∧ hi ≤ l.length ∧ hi - lo ≤ g ∧ Below w.heap.size w wr ∧ Hid (En.Srt l → (∀ j (hj : j < l.length), j < lo → En.lt l[j].1 k = true) ∧ (∀ j (hj : j < l.length), hi ≤ j → En.lt l[j].1 k = false)))
  case atStart => exact ⟨0, l.length, rfl, rfl, Nat.zero_le _, Nat.le_refl _, by omega, Below.refl _ _, Lib.hid fun _ => ⟨fun j hj h => absurd h (by omega), fun j hj h => absurd h (by omega)⟩⟩
  case round =>
    obtain ⟨lo, hi, rfl, rfl, hlh, hin, hg, hbe, HI⟩ := hrel
    by_cases hlt : lo < hi
    · have hm : (lo + hi) / 2 < l.length := by omega
      obtain ⟨b2, o2, rfl, hb2, g0, g1⟩ := (hr.below hbe).ent hm
      have hc := fun W => hid_calls (find1_any l[(lo + hi) / 2] k W)
      have hsl := fun h i (hi' : i ≤ (lo + hi) / 2) => srt_lt (l := l) h hi' hm (k := k)
      have hsg := fun h j (hj' : (lo + hi) / 2 ≤ j) (hj : j < l.length) => srt_ge (l := l) h hj' hj (k := k)
      have HSL := Lib.hid hsl
      have HSG := Lib.hid hsg
      clear hsl hsg
      generalize hx : l[(lo + hi) / 2] = x at *
      have hb2' : b2 < wr.heap.size := by have := hbe.size; omega
      cases hlx : En.lt x.1 k with
      | true =>
        rw [cmpS_lt hlx] at hc
        have HLX := Lib.hid hlx
        clear hlx
        go_wp2_with fail
        refine (hc _).out.mono ?_
        rintro e w2 ⟨rfl, b3⟩
        go_wp2
        go_roundg (hi - ((lo + hi) / 2 + 1))
        case measure => omega
        case rel =>
          refine ⟨(lo + hi) / 2 + 1, hi, by rw [show ((lo : Int) + (hi : Int)) / 2 + 1 = (((lo + hi) / 2 + 1 : Nat) : Int) by omega], rfl, by omega, hin, Nat.le_refl _, hbe.trans (b3.mono hbe.size), Lib.hid fun hs => ⟨fun j hj hj2 => ?_, (HI.out hs).2⟩⟩
          exact HSL.out hs j (by omega) HLX.out
      | false =>
        have hq : 0 ≤ cmpS x.1 k := by
          rcases En.ge_of hlx with e | e
          · rw [e, cmpS_eq0]; omega
          · rw [cmpS_gt e]; omega
        have HLX := Lib.hid hlx
        clear hlx
        generalize cmpS x.1 k = cq at *
        go_wp2_with fail
        refine (hc _).out.mono ?_
        rintro e w2 ⟨rfl, b3⟩
        go_wp2
        go_roundg ((lo + hi) / 2 - lo)
        case measure => omega
        case rel =>
          refine ⟨lo, (lo + hi) / 2, rfl, by rw [show ((lo : Int) + (hi : Int)) / 2 = (((lo + hi) / 2 : Nat) : Int) by omega], by omega, by omega, Nat.le_refl _, hbe.trans (b3.mono hbe.size), Lib.hid fun hs => ⟨(HI.out hs).1, fun j hj hj2 => ?_⟩⟩
          exact HSG.out hs j hj2 hj (by rw [hx]; exact HLX.out)
    · obtain rfl : lo = hi := by omega
      have hLow : En.Srt l → Lower l k lo := fun hs => HI.out hs
      have HLOW := Lib.hid hLow
      clear hLow HI
      by_cases hend : lo < l.length
      · obtain ⟨b2, o2, rfl, hb2, g0, g1⟩ := (hr.below hbe).ent hend
        have hc := fun W => hid_calls (find1_any l[lo] k W)
        have hb2' : b2 < wr.heap.size := by have := hbe.size; omega
        obtain ⟨x, hx⟩ : ∃ x, x = l[lo] := ⟨_, rfl⟩
        rw [← hx] at hc g0 g1
        have HX := Lib.hid hx
        clear hx
        by_cases he : x.1 = k
        · have hq : cmpS x.1 k = 0 := by rw [he]; exact cmpS_eq0 k
          rw [hq] at hc
          have HE := Lib.hid he
          clear hq he
          go_wp2_with fail
          refine (hc _).out.mono ?_
          rintro e w2 ⟨rfl, b3⟩
          go_wp2
          go_ret2
          exact ⟨lo, true, rfl, hin, fun _ => ⟨hend, by rw [← HX.out]; exact HE.out⟩, fun e => (by cases e), HLOW.out, hbe.trans (b3.mono hbe.size)⟩
        · have hq : (cmpS x.1 k == 0) = false := by
            rcases En.lt_tri x.1 k with e | e | e
            · rw [cmpS_lt e]; rfl
            · exact absurd e he
            · rw [cmpS_gt e]; rfl
          have HE := Lib.hid he
          clear he
          generalize cmpS x.1 k = cq at *
          go_wp2_with fail
          refine (hc _).out.mono ?_
          rintro e w2 ⟨rfl, b3⟩
          go_wp2
          go_ret2
          exact ⟨lo, false, rfl, hin, fun e => (by cases e), fun _ h => by rw [← HX.out]; exact HE.out, HLOW.out, hbe.trans (b3.mono hbe.size)⟩
      · obtain rfl : lo = l.length := by omega
        go_wp2
        go_ret2
        exact ⟨l.length, false, rfl, hin, fun e => (by cases e), fun _ h => absurd h (by omega), HLOW.out, hbe⟩
set_option maxRecDepth 100000 in
set_option maxHeartbeats 400000 in
theorem find_any (A : Option Addr) (c : Nat) (l : List Ent) (k : ByteArray) (w : World) (hr : LS entE w w.heap.size A l) (hl : l.length ≤ 1000000) :
    Calls Tryz.prog 74 #[.slice A l.length c, .string k] w (BsEnd l k w) := by
  have hb := hid_calls (bs_any A c l k w hr hl)
  go_enter Tryz.func74, Tryz.ntmps74
  go_wp2_with fail
  refine hb.out.mono ?_
  rintro e w2 ⟨i, fd, rfl, h1, h2, h3, h4, h5⟩
  have H2 := Lib.hid h2
  have H3 := Lib.hid h3
  have H4 := Lib.hid h4
  clear h2 h3 h4
  go_wp2
  go_ret2
  exact ⟨i, fd, rfl, h1, H2.out, H3.out, H4.out, h5⟩
end Go.Proofs.YtpfplojkiloldaaGreatDoor
namespace En
structure Dl where
  key : Str
  old : Str
  new : Str
  was : Bool
  is : Bool
def nil : Str := ⟨#[]⟩
theorem get_none {l : List Ent} {k : Str} (h : ∀ x ∈ l, x.1 ≠ k) : get l k = none := by
  unfold get
  rw [List.find?_eq_none.2]
  · rfl
  · intro x hx; rw [eqs_no (h x hx)]; simp
def keys (l : List Ent) : List Str := l.map (·.1)
def ap1 (l : List Ent) (d : Dl) : List Ent := if right l then (if d.is then (if may d.key d.new then put l d.key d.new else l) else del l d.key) else l
def ap (l : List Ent) (d : List Dl) : List Ent := d.foldl ap1 l
theorem ins_len (z : Ent) (c : List Ent) : (ins z c).length = c.length + 1 := by
  induction c with
  | nil => rfl
  | cons u c ihc => unfold ins; split <;> simp [ihc]
theorem put_len (l : List Ent) (k v : Str) : (put l k v).length ≤ l.length + 1 := by
  unfold put; rw [ins_len]
  have := List.length_filter_le (fun y : Ent => !eqs y.1 k) l
  unfold del; omega
theorem del_len (l : List Ent) (k : Str) : (del l k).length ≤ l.length := List.length_filter_le _ _
end En
namespace Go.Proofs.YtpfplojkiloldaaGreatDoor
open Go.RowKit Go.Shelf
structure SV {α : Type} (E : Enc α) (w : World) (A : Option Addr) (c : Nat) (l : List α) : Prop where
  ls : LS E w w.heap.size A l
  le : l.length ≤ c
  nil_ : A = none → c = 0
theorem SV.up {α : Type} {E : Enc α} {w w' : World} {A : Option Addr} {c : Nat} {l : List α} (h : SV E w A c l) (hb : Below w.heap.size w w') : SV E w' A c l := ⟨h.ls.up hb, h.le, h.nil_⟩
theorem LO.sv {α : Type} {E : Enc α} {ty : TypeId} {w : World} {base n : Nat} {A : Option Addr} {c : Nat} {l : List α} (h : LO E ty w base (.slice A n c) l) : SV E w A c l := by
  refine ⟨h.ls, ?_, ?_⟩
  · rcases h.2 with ⟨e, h0⟩ | ⟨g, cap, cur, e, _, _, hn, _⟩
    · omega
    · injection e with _ _ e3; subst e3; exact hn
  · rintro rfl
    rcases h.2 with ⟨e, h0⟩ | ⟨g, cap, cur, e, _⟩
    · injection e
    · injection e with e1; cases e1
def GiveEnd {α : Type} (E : Enc α) (o : List α) (w : World) (e : Ending) (w' : World) : Prop := ∃ A c, e = .returned (.slice A o.length c) ∧ SV E w' A c o ∧ Below w.heap.size w w'
theorem GiveEnd.of_eq {α : Type} {E : Enc α} {o : List α} {w w' : World} {A : Option Addr} {c n : Nat} (hn : o.length = n) (h : SV E w' A c o) (hb : Below w.heap.size w w') : GiveEnd E o w (.returned (.slice A n c)) w' := by subst hn; exact ⟨A, c, rfl, h, hb⟩
theorem cells_set (l : List Ent) (i : Nat) (k v : ByteArray) : ((entE.cells l).set (i * 2) (.string k)).set (i * 2 + 1) (.string v) = entE.cells (l.set i (k, v)) := by
  induction l generalizing i with
  | nil => simp [Enc.cells]
  | cons x l ih =>
    rw [entE.cells_cons]
    have e : entE.enc x = [.string x.1, .string x.2] := rfl
    rw [e]
    cases i with
    | zero => simp [Enc.cells_cons, entE]
    | succ i =>
      have h := ih i
      rw [show (i + 1) * 2 = i * 2 + 1 + 1 by omega]
      simp only [List.cons_append, List.nil_append, List.set_cons_succ, h]
      rw [entE.cells_cons]; rfl
theorem size_ent (W : World) : (sizeOf (Tryz.prog.elem 32)).run Tryz.prog W = .ok 2 W := by kernel_rfl
theorem und_ent : Tryz.prog.underlying 32 = some (.slice (Tryz.prog.elem 32)) := by kernel_rfl
theorem cut_to (A : Option Addr) (n c i : Nat) (hi : i ≤ n) (hc : n ≤ c) (W : World) : (Instr.slice 32 (.slice A n c) none (some (.int .i64 i)) (some (.int .i64 i))).run Tryz.prog W = .ok (.slice A i i) W := by
  rw [run_slice_hm W 32 A n c und_ent .i64 .i64 (i : Int) (i : Int) (by omega) (Int.le_refl _) (by omega), size_ent]
  simp only [Result.andThen_ok, sliced, Int.toNat_natCast, Nat.zero_mul, Nat.sub_zero]
  have e : (if i = 0 then A else A.map (·.add 0)) = A := by
    split
    · rfl
    · cases A <;> rfl
  rw [e]
theorem cut_from (A : Option Addr) (n c i : Nat) (x : Int) (hx : x = i) (hi : i ≤ n) (W : World) : (Instr.slice 32 (.slice A n c) (some (.int .i64 x)) none none).run Tryz.prog W = .ok (.slice (if c = i then A else A.map (·.add (i * 2))) (n - i) (c - i)) W := by
  subst hx
  rw [run_slice_l W 32 A n c und_ent .i64 (i : Int) (by omega) (by omega), size_ent]
  simp only [Result.andThen_ok, sliced, Int.toNat_natCast]
theorem SV.cut {w : World} {A : Option Addr} {c : Nat} {l : List Ent} (h : SV entE w A c l) {i : Nat} (hi : i ≤ l.length) : LS entE w w.heap.size (if c = i then A else A.map (·.add (i * 2))) (l.drop i) := h.ls.cut hi h.le
set_option maxRecDepth 100000 in
set_option maxHeartbeats 1000000 in
theorem eput_not (A : Option Addr) (c : Nat) (l : List Ent) (k v : ByteArray) (w : World) (hr : SV entE w A c l) (hl : l.length ≤ 100000) (h : (En.right l && En.may k v) = false) :
    Calls Tryz.prog 43 #[.slice A l.length c, .string k, .string v] w (GiveEnd entE l w) := by
  have hR := hid_calls (right_any A c l w hr.ls (by omega))
  cases hrt : En.right l with
  | false =>
    rw [hrt] at hR
    clear hrt h
    go_enter Tryz.func43, Tryz.ntmps43
    go_wp2_with fail
    refine hR.out.mono ?_
    rintro e w1 ⟨rfl, b1⟩
    go_wp2
    go_ret
    exact ⟨A, c, rfl, hr.up b1, b1⟩
  | true =>
    rw [hrt] at hR h
    have hm : En.may k v = false := by simpa using h
    have hC := fun W => hid_calls (check_any k v W)
    rw [chk_no hm] at hC
    clear hrt h hm
    go_enter Tryz.func43, Tryz.ntmps43
    go_wp2_with fail
    refine hR.out.mono ?_
    rintro e w1 ⟨rfl, b1⟩
    go_wp2_with fail
    refine (hC _).out.mono ?_
    rintro e w' ⟨rfl, hw⟩; subst hw
    go_wp2
    go_ret
    exact ⟨A, c, rfl, hr.up b1, b1⟩
set_option maxRecDepth 100000 in
set_option maxHeartbeats 2000000 in
theorem eput_yes (A : Option Addr) (c : Nat) (l : List Ent) (k v : ByteArray) (w : World) (hr : SV entE w A c l) (hl : l.length ≤ 100000) (hrt : En.right l = true) (hm : En.may k v = true) (o : List Ent) (ho : o = En.put l k v) :
    Calls Tryz.prog 43 #[.slice A l.length c, .string k, .string v] w (GiveEnd entE o w) := by
  have HO := Lib.hid ho
  clear ho
  have hR := hid_calls (right_any A c l w hr.ls (by omega))
  rw [hrt] at hR
  have hs := ((En.right_iff l).1 hrt).2
  have HS := Lib.hid hs
  have hC := fun W => hid_calls (check_any k v W)
  rw [chk_yes hm] at hC
  clear hrt hm hs
  have hF := fun W h => hid_calls (find_any A c l k W h (by omega))
  go_enter Tryz.func43, Tryz.ntmps43
  go_wp2_with fail
  refine hR.out.mono ?_
  rintro e w1 ⟨rfl, b1⟩
  have hr1 := hr.up b1
  go_wp2_with fail
  refine (hC _).out.mono ?_
  rintro e w' ⟨rfl, hw⟩; subst hw
  go_wp2_with fail
  refine (hF _ hr1.ls).out.mono ?_
  rintro e w2 ⟨i, fd, rfl, hi, hyes, hno, hlow, b2⟩
  have hr2 := hr1.up b2
  have bb := b1.trans (b2.mono b1.size)
  have HLOW := Lib.hid (hlow HS.out)
  clear hR hC hF hr1 hr b1 b2 hlow
  have hbX := bb.alloc bb.size (.cells #[.string k, .string v] 38)
  have hbA : Below w2.heap.size w2 (w2.alloc (.cells #[.string k, .string v] 38)) := (Below.refl _ w2).alloc (Nat.le_refl _) _
  have hrX := hr2.up hbA
  have hBX := Blk.new w2 38 #[.string k, .string v]
  cases fd with
  | true =>
    obtain ⟨hil, hik⟩ := hyes rfl
    have hp := (En.at_put HS.out (k := k) (v := v) hi HLOW.out.1 HLOW.out.2).1 hil hik
    have HP := Lib.hid hp.1
    have hCl := fun W h => hid_calls (eclone_any A c l W (fun e => by have h1 := hr2.nil_ e; have := hr2.le; omega) h (by omega))
    have hlt' : (i : Int) < l.length := by omega
    clear hno hik hp hyes hr2 hbA
    go_wp2_with fail
    refine (hCl _ hrX.ls).out.mono ?_
    intro e w3 he
    obtain ⟨A3, c3, rfl, ho3, _, b3⟩ := he.open_
    clear he hCl hrX
    have hBX3 := hBX.below b3 hBX.lt
    have bb3 := hbX.trans (b3.mono hbX.size)
    obtain ⟨g3, c4, hv3, hg3, hlt3⟩ := World.ownsRow.form ho3 (by omega)
    injection hv3 with e1 e2 e3
    subst e1 e3
    clear e2
    obtain ⟨g4, o4, e4, hg4, f0, f1⟩ := (ho3.ls).ent hil
    injection e4 with e4; injection e4 with e4 e5; subst e4 e5
    rw [Nat.zero_add] at f0 f1
    obtain ⟨cur, hcur⟩ := own_obj ho3 (r := g3) rfl
    have hgb := (World.ownsRow.lt ho3 g3 rfl).1
    have hBc : Blk w3 g3 38 cur := hcur
    have z0 := hBc.frozen (i * 2)
    have z1 := hBc.frozen (i * 2 + 1)
    have x0 := hBX3.cell 0
    have x1 := hBX3.cell 1
    have hltx := hBX3.lt
    have hst := (World.ownsRow.stored (World.ownsRow.stored ho3 (i * 2) (.string k)).1 (i * 2 + 1) (.string v)).1
    rw [cells_set] at hst
    have hset : LO entE 38 ((w3.setCell ⟨g3, i * 2, none⟩ (.string k)).setCell ⟨g3, i * 2 + 1, none⟩ (.string v)) (w2.alloc (.cells #[.string k, .string v] 38)).heap.size (.slice (some ⟨g3, 0, none⟩) l.length c3) (l.set i (k, v)) := by
      unfold LO; rw [List.length_set]; exact hst
    have hbe := (bb3.setCell (p := ⟨g3, i * 2, none⟩) (by show w.heap.size ≤ g3; have := bb.size; simp at hgb; omega) (.string k)).setCell (p := ⟨g3, i * 2 + 1, none⟩) (by show w.heap.size ≤ g3; have := bb.size; simp at hgb; omega) (.string v)
    have hsl : (l.set i (k, v)).length = l.length := List.length_set
    rw [HP.out] at hset hsl
    clear ho3 b3 hBX3 hBX hBc hst HP
    go_wp2
    go_ret
    exact GiveEnd.of_eq (by rw [HO.out]; exact hsl) (by rw [HO.out]; exact hset.sv) hbe
  | false =>
    have hp := (En.at_put HS.out (k := k) (v := v) hi HLOW.out.1 HLOW.out.2).2 (hno rfl)
    have HP := Lib.hid hp.1
    have hs1 := cut_to A l.length c i hi hr2.le
    have hs2 := cut_from A l.length c i (i : Int) rfl hi
    have hcut := hr2.cut hi
    have hnil := hr2.nil_
    have hle := hr2.le
    generalize (if c = i then A else A.map (·.add (i * 2))) = A2 at *
    clear hno hyes hp
    have hf1 : (i : Int) ≤ l.length := by omega
    have hS0 : (w2.alloc (.cells #[.string k, .string v] 38)).drew.cell? ⟨w2.heap.size, 0, none⟩ = some (.string k) ∧ (w2.alloc (.cells #[.string k, .string v] 38)).drew.cell? ⟨w2.heap.size, 1, none⟩ = some (.string v) := ⟨hBX.cell 0, hBX.cell 1⟩
    have hBY := Blk.new (w2.alloc (.cells #[.string k, .string v] 38)) 38 #[.string k, .string v]
    have hBZ := Blk.new ((w2.alloc (.cells #[.string k, .string v] 38)).alloc (.cells #[.string k, .string v] 38)) 32 #[.slice A i i, .slice (some ⟨w2.heap.size + 1, 0, none⟩) 1 1, .slice A2 (l.length - i) (c - i)]
    simp only [World.size_alloc] at hBY hBZ
    have bZ : Below w2.heap.size w2 (((w2.alloc (.cells #[.string k, .string v] 38)).alloc (.cells #[.string k, .string v] 38)).alloc (.cells #[.slice A i i, .slice (some ⟨w2.heap.size + 1, 0, none⟩) 1 1, .slice A2 (l.length - i) (c - i)] 32)).drew := ((((Below.refl _ w2).alloc (Nat.le_refl _) _).alloc (by simp) _).alloc (by simp; omega) _).drew
    have hS3 : (((w2.alloc (.cells #[.string k, .string v] 38)).alloc (.cells #[.string k, .string v] 38)).alloc (.cells #[.slice A i i, .slice (some ⟨w2.heap.size + 1, 0, none⟩) 1 1, .slice A2 (l.length - i) (c - i)] 32)).drew.cell? ⟨w2.heap.size, 0, none⟩ = some (.string k) ∧ (((w2.alloc (.cells #[.string k, .string v] 38)).alloc (.cells #[.string k, .string v] 38)).alloc (.cells #[.slice A i i, .slice (some ⟨w2.heap.size + 1, 0, none⟩) 1 1, .slice A2 (l.length - i) (c - i)] 32)).drew.cell? ⟨w2.heap.size, 1, none⟩ = some (.string v) :=
      ⟨((hBX.alloc _).alloc _).cell 0, ((hBX.alloc _).alloc _).cell 1⟩
    have hS2 : ((w2.alloc (.cells #[.string k, .string v] 38)).alloc (.cells #[.string k, .string v] 38)).drew.cell? ⟨w2.heap.size, 0, none⟩ = some (.string k) ∧ ((w2.alloc (.cells #[.string k, .string v] 38)).alloc (.cells #[.string k, .string v] 38)).drew.cell? ⟨w2.heap.size, 1, none⟩ = some (.string v) :=
      ⟨(hBX.alloc _).cell 0, (hBX.alloc _).cell 1⟩
    have e1 : (l.take i).length = i := by rw [List.length_take]; omega
    have hcl : conc [(A, i, l.take i), (some ⟨w2.heap.size + 1, 0, none⟩, 1, [(k, v)]), (A2, c - i, l.drop i)] = l.take i ++ (k, v) :: l.drop i := by simp [conc]
    have hCc := econcat_any (w2.heap.size + 1 + 1) 3 [(A, i, l.take i), (some ⟨w2.heap.size + 1, 0, none⟩, 1, [(k, v)]), (A2, c - i, l.drop i)] rfl (by omega) (((w2.alloc (.cells #[.string k, .string v] 38)).alloc (.cells #[.string k, .string v] 38)).alloc (.cells #[.slice A i i, .slice (some ⟨w2.heap.size + 1, 0, none⟩) 1 1, .slice A2 (l.length - i) (c - i)] 32)).drew
      (by
        show Blk _ _ _ #[.slice A (l.take i).length i, .slice (some ⟨w2.heap.size + 1, 0, none⟩) 1 1, .slice A2 (l.drop i).length (c - i)]
        rw [e1, List.length_drop]; exact hBZ)
      (by
        intro p hp
        simp only [List.mem_cons, List.not_mem_nil, or_false] at hp
        rcases hp with rfl | rfl | rfl
        · exact (hr2.ls.take_ i).up bZ
        · refine ⟨by simp [Enc.cells, entE], fun _ => ⟨_, rfl, by simp, fun j u hu => ?_⟩⟩
          rw [Addr.add_lit, Nat.zero_add]
          refine ((hBY.alloc _).cell j).trans ?_
          simpa [Enc.cells, entE] using hu
        · exact hcut.up bZ)
      (by rw [hcl, List.length_append, List.length_cons, List.length_drop, e1]; omega)
    rw [hcl, HP.out] at hCc
    have HCC := Lib.hid hCc
    clear hCc hcl e1 hcut hBY hBZ hr2 hrX hBX
    have hzz : w2.heap.size < (((w2.alloc (.cells #[.string k, .string v] 38)).alloc (.cells #[.string k, .string v] 38)).alloc (.cells #[.slice A i i, .slice (some ⟨w2.heap.size + 1, 0, none⟩) 1 1, .slice A2 (l.length - i) (c - i)] 32)).drew.heap.size := by simp; omega
    go_wp2_with fail
    go_region_held3 (fun W => W.cell? ⟨w2.heap.size, 0, none⟩ = some (.string k) ∧ W.cell? ⟨w2.heap.size, 1, none⟩ = some (.string v)) (first | exact hS0 | exact hS2 | exact hS3 | exact ⟨(b9.cell (p := ⟨w2.heap.size, 0, none⟩) hzz).trans hS3.1, (b9.cell (p := ⟨w2.heap.size, 1, none⟩) hzz).trans hS3.2⟩)
      (first | (go_at_call 76; refine HCC.out.mono ?_; intro e w9 he; obtain ⟨A9, c9, rfl, ho9, _, b9⟩ := he.open_))
    all_goals
      go_wp2
      go_ret
      exact GiveEnd.of_eq (by rw [HO.out]) (by rw [HO.out]; exact ho9.sv) (bb.trans ((bZ.trans (b9.mono bZ.size)).mono bb.size))
def putS (l : List Ent) (k v : ByteArray) : List Ent := if En.right l && En.may k v then En.put l k v else l
def delS (l : List Ent) (k : ByteArray) : List Ent := if En.right l then En.del l k else l
theorem eput_any (A : Option Addr) (c : Nat) (l : List Ent) (k v : ByteArray) (w : World) (hr : SV entE w A c l) (hl : l.length ≤ 100000) :
    Calls Tryz.prog 43 #[.slice A l.length c, .string k, .string v] w (GiveEnd entE (putS l k v) w) := by
  cases h : En.right l && En.may k v with
  | false =>
    have e : putS l k v = l := by unfold putS; rw [h]; rfl
    rw [e]; exact eput_not A c l k v w hr hl h
  | true =>
    have h' : En.right l = true ∧ En.may k v = true := by simpa using h
    exact eput_yes A c l k v w hr hl h'.1 h'.2 _ (by unfold putS; rw [h]; rfl)
set_option maxRecDepth 100000 in
set_option maxHeartbeats 2000000 in
theorem edel_any (A : Option Addr) (c : Nat) (l : List Ent) (k : ByteArray) (w : World) (hr : SV entE w A c l) (hl : l.length ≤ 100000) :
    Calls Tryz.prog 48 #[.slice A l.length c, .string k] w (GiveEnd entE (delS l k) w) := by
  obtain ⟨o, ho⟩ : ∃ o, o = delS l k := ⟨_, rfl⟩
  rw [← ho]
  have HO := Lib.hid ho
  clear ho
  have hF := hid_calls (find_any A c l k w hr.ls (by omega))
  have hR := fun W h => hid_calls (right_any A c l W h (by omega))
  cases hrt : En.right l with
  | false =>
    rw [hrt] at hR
    have hol : o = l := by rw [HO.out]; unfold delS; rw [hrt]; rfl
    have HOL := Lib.hid hol
    clear hrt hol HO
    go_enter Tryz.func48, Tryz.ntmps48
    go_wp2_with fail
    refine hF.out.mono ?_
    rintro e w1 ⟨i, fd, rfl, hi, hyes, hno, hlow, b1⟩
    have hr1 := hr.up b1
    clear hyes hno hlow hF
    cases fd with
    | false =>
      go_wp2
      go_ret
      exact GiveEnd.of_eq (by rw [HOL.out]) (by rw [HOL.out]; exact hr1) b1
    | true =>
      go_wp2_with fail
      refine (hR _ hr1.ls).out.mono ?_
      rintro e w2 ⟨rfl, b2⟩
      go_wp2
      go_ret
      exact GiveEnd.of_eq (by rw [HOL.out]) (by rw [HOL.out]; exact hr1.up b2) (b1.trans (b2.mono b1.size))
  | true =>
    rw [hrt] at hR
    have hs := ((En.right_iff l).1 hrt).2
    have hol : o = En.del l k := by rw [HO.out]; unfold delS; rw [hrt]; rfl
    have HOL := Lib.hid hol
    have HS := Lib.hid hs
    clear hrt hol HO hs
    go_enter Tryz.func48, Tryz.ntmps48
    go_wp2_with fail
    refine hF.out.mono ?_
    rintro e w1 ⟨i, fd, rfl, hi, hyes, hno, hlow, b1⟩
    have hr1 := hr.up b1
    have HLOW := Lib.hid (hlow HS.out)
    clear hlow hF
    cases fd with
    | false =>
      have hp := (En.at_put HS.out (k := k) (v := k) hi HLOW.out.1 HLOW.out.2).2 (hno rfl)
      have HP := Lib.hid hp.2
      clear hp hyes hno
      go_wp2
      go_ret
      exact GiveEnd.of_eq (by rw [HOL.out, HP.out]) (by rw [HOL.out, HP.out]; exact hr1) b1
    | true =>
      obtain ⟨hil, hik⟩ := hyes rfl
      have hp := (En.at_put HS.out (k := k) (v := k) hi HLOW.out.1 HLOW.out.2).1 hil hik
      have HP := Lib.hid hp.2
      clear hno hik hp hyes
      go_wp2_with fail
      refine (hR _ hr1.ls).out.mono ?_
      rintro e w2 ⟨rfl, b2⟩
      have hr2 := hr1.up b2
      have bb := b1.trans (b2.mono b1.size)
      clear hR hr1 hr b1 b2
      have hs1 := cut_to A l.length c i hi hr2.le
      have hs2 := cut_from A l.length c (i + 1) ((i : Int) + 1) (by omega) (by omega)
      have hcut := hr2.cut (i := i + 1) (by omega)
      have hle := hr2.le
      generalize (if c = i + 1 then A else A.map (·.add ((i + 1) * 2))) = A2 at *
      have hf1 : (i : Int) + 1 ≤ l.length := by omega
      have hw1 : IntKind.i64.wrap ((i : Int) + 1) = (i : Int) + 1 := IntWalk.i64_in _ (by omega)
      have hBZ := Blk.new w2 32 #[.slice A i i, .slice A2 (l.length - (i + 1)) (c - (i + 1))]
      have bZ : Below w2.heap.size w2 (w2.alloc (.cells #[.slice A i i, .slice A2 (l.length - (i + 1)) (c - (i + 1))] 32)).drew := ((Below.refl _ w2).alloc (Nat.le_refl _) _).drew
      have e1 : (l.take i).length = i := by rw [List.length_take]; omega
      have hcl : conc [(A, i, l.take i), (A2, c - (i + 1), l.drop (i + 1))] = l.take i ++ l.drop (i + 1) := by simp [conc]
      have hCc := econcat_any w2.heap.size 2 [(A, i, l.take i), (A2, c - (i + 1), l.drop (i + 1))] rfl (by omega) (w2.alloc (.cells #[.slice A i i, .slice A2 (l.length - (i + 1)) (c - (i + 1))] 32)).drew
        (by
          show Blk _ _ _ #[.slice A (l.take i).length i, .slice A2 (l.drop (i + 1)).length (c - (i + 1))]
          rw [e1, List.length_drop]; exact hBZ)
        (by
          intro p hp
          simp only [List.mem_cons, List.not_mem_nil, or_false] at hp
          rcases hp with rfl | rfl
          · exact (hr2.ls.take_ i).up bZ
          · exact hcut.up bZ)
        (by rw [hcl, List.length_append, List.length_drop, e1]; omega)
      rw [hcl, HP.out] at hCc
      have HCC := Lib.hid hCc
      clear hCc hcl e1 hcut hBZ hr2
      go_wp2_with fail
      go_region_held3 (fun _ => True) (trivial)
        (first | (go_at_call 76; refine HCC.out.mono ?_; intro e w9 he; obtain ⟨A9, c9, rfl, ho9, _, b9⟩ := he.open_))
      all_goals
        go_wp2
        go_ret
        exact GiveEnd.of_eq (by rw [HOL.out]) (by rw [HOL.out]; exact ho9.sv) (bb.trans ((bZ.trans (b9.mono bZ.size)).mono bb.size))
end Go.Proofs.YtpfplojkiloldaaGreatDoor
namespace Go.Proofs.YtpfplojkiloldaaGreatDoor
open Go.RowKit
def encErr (r : Bool) : Int := if r then 0 else 1
end Go.Proofs.YtpfplojkiloldaaGreatDoor
namespace Nd
open En
structure Node where
  leaf : Bool
  ents : List Ent
  kids : List Int
  keys : List Str
def mkLeaf (l : List Ent) : Node := ⟨true, l, [], []⟩
def mkInner (kids : List Int) (keys : List Str) : Node := ⟨false, [], kids, keys⟩
def keysFrom : Option Str → List Str → Bool
  | _, [] => true
  | p, k :: l => may k ⟨#[]⟩ && ahead p k && keysFrom (some k) l
def okKid (i : Int) : Bool := decide (2 ≤ i) && decide (i ≤ 4294967295)
def right (n : Node) : Bool :=
  if n.leaf then En.right n.ents && decide (n.kids.length + n.keys.length = 0)
  else decide (n.ents.length = 0) && decide (n.keys.length + 1 = n.kids.length) && n.kids.all okKid && keysFrom none n.keys
def esz (x : Ent) : Nat := 2 + x.1.size + x.2.size
def esize (l : List Ent) : Nat := (l.map esz).sum
def ksz (k : Str) : Nat := 5 + k.size
def ksize (l : List Str) : Nat := (l.map ksz).sum
def size (n : Node) : Nat := if n.leaf then esize n.ents else 4 + ksize n.keys
def fits (n : Node) : Bool := right n && decide (size n ≤ 240)
def kind (n : Node) : Nat := if n.leaf then 1 else 2
theorem right_leaf {l : List Ent} {kids : List Int} {keys : List Str} : right ⟨true, l, kids, keys⟩ = true ↔ En.right l = true ∧ kids = [] ∧ keys = [] := by
  unfold right
  simp only [if_true, Bool.and_eq_true, decide_eq_true_eq]
  constructor
  · rintro ⟨h1, h2⟩
    exact ⟨h1, List.eq_nil_of_length_eq_zero (by omega), List.eq_nil_of_length_eq_zero (by omega)⟩
  · rintro ⟨h1, rfl, rfl⟩; exact ⟨h1, rfl⟩
theorem right_inner {l : List Ent} {kids : List Int} {keys : List Str} : right ⟨false, l, kids, keys⟩ = true ↔ l = [] ∧ keys.length + 1 = kids.length ∧ (∀ i ∈ kids, 2 ≤ i ∧ i ≤ 4294967295) ∧ keysFrom none keys = true := by
  unfold right
  simp only [Bool.false_eq_true, if_false, Bool.and_eq_true, decide_eq_true_eq, List.all_eq_true]
  constructor
  · rintro ⟨⟨⟨h1, h2⟩, h3⟩, h4⟩
    exact ⟨List.eq_nil_of_length_eq_zero h1, h2, fun i hi => by have := h3 i hi; unfold okKid at this; simpa using this, h4⟩
  · rintro ⟨rfl, h2, h3, h4⟩
    exact ⟨⟨⟨rfl, h2⟩, fun i hi => by have := h3 i hi; unfold okKid; simpa using this⟩, h4⟩
def KSrt (l : List Str) : Prop := l.Pairwise fun x y => lt x y = true
theorem keysFrom_iff : ∀ (l : List Str) (p : Option Str), keysFrom p l = true ↔ (∀ x ∈ l, may x ⟨#[]⟩ = true) ∧ (∀ y, p = some y → ∀ x ∈ l, lt y x = true) ∧ KSrt l
  | [], p => by simp [keysFrom, KSrt]
  | x :: l, p => by
    rw [keysFrom, Bool.and_eq_true, Bool.and_eq_true, keysFrom_iff l (some x)]
    unfold KSrt
    rw [List.pairwise_cons]
    constructor
    · rintro ⟨⟨h1, h2⟩, h3, h4, h5⟩
      refine ⟨fun y hy => ?_, fun y hy z hz => ?_, fun y hy => h4 _ rfl y hy, h5⟩
      · rcases List.mem_cons.1 hy with rfl | hy
        · exact h1
        · exact h3 y hy
      · subst hy
        unfold ahead at h2; simp only at h2
        rcases List.mem_cons.1 hz with rfl | hz
        · exact h2
        · exact lt_trans h2 (h4 _ rfl z hz)
    · rintro ⟨h1, h2, h3, h4⟩
      refine ⟨⟨h1 x List.mem_cons_self, ?_⟩, fun y hy => h1 y (List.mem_cons_of_mem _ hy), fun y hy z hz => ?_, h4⟩
      · cases p with
        | none => rfl
        | some y => exact h2 y rfl x List.mem_cons_self
      · injection hy with hy; subst hy; exact h3 z hz
theorem keys_iff (l : List Str) : keysFrom none l = true ↔ (∀ x ∈ l, may x ⟨#[]⟩ = true) ∧ KSrt l := by
  rw [keysFrom_iff]
  exact ⟨fun h => ⟨h.1, h.2.2⟩, fun h => ⟨h.1, (fun y hy => by cases hy), h.2⟩⟩
def kprev (l : List Str) (k : Nat) : Option Str := if k = 0 then none else l[k - 1]?
theorem keys_at (l : List Str) (k : Nat) (hk : k < l.length) : keysFrom (kprev l k) (l.drop k) = (may l[k] ⟨#[]⟩ && ahead (kprev l k) l[k] && keysFrom (kprev l (k + 1)) (l.drop (k + 1))) := by
  rw [List.drop_eq_getElem_cons hk, keysFrom]
  have e : kprev l (k + 1) = some l[k] := by unfold kprev; rw [if_neg (by omega)]; simp [hk]
  rw [e]
theorem kprev_succ (l : List Str) (k : Nat) (hk : k < l.length) (h0 : 0 < k) : kprev l k = some (l[k - 1]'(by omega)) := by
  unfold kprev; rw [if_neg (by omega)]; simp [show k - 1 < l.length by omega]
def text (s : Str) : List UInt8 := UInt8.ofNat s.size :: s.data.toList
def enc1 (x : Ent) : List UInt8 := text x.1 ++ text x.2
def eenc (l : List Ent) : List UInt8 := l.flatMap enc1
def kenc1 (x : Str × Int) : List UInt8 := text x.1 ++ Cp.be 4 x.2.toNat
def kenc (keys : List Str) (kids : List Int) : List UInt8 := (keys.zip kids).flatMap kenc1
def enc (n : Node) : List UInt8 := if n.leaf then eenc n.ents else Cp.be 4 (n.kids.headD 0).toNat ++ kenc n.keys n.kids.tail
theorem text_length (s : Str) : (text s).length = 1 + s.size := by
  unfold text; rw [List.length_cons, Array.length_toList, ByteArray.size_data]; omega
theorem enc1_length (x : Ent) : (enc1 x).length = esz x := by
  unfold enc1 esz; rw [List.length_append, text_length, text_length]; omega
theorem eenc_length (l : List Ent) : (eenc l).length = esize l := by
  induction l with
  | nil => rfl
  | cons x l ih => unfold eenc esize at *; rw [List.flatMap_cons, List.length_append, ih, enc1_length, List.map_cons, List.sum_cons]
theorem kenc_length : ∀ (keys : List Str) (kids : List Int), keys.length = kids.length → (kenc keys kids).length = ksize keys
  | [], _, _ => rfl
  | k :: ks, i :: is, h => by
    have ih := kenc_length ks is (by simpa using h)
    unfold kenc ksize kenc1 at *
    rw [List.zip_cons_cons, List.flatMap_cons, List.length_append, ih, List.map_cons, List.sum_cons, List.length_append, text_length, Cp.be_length]
    simp only [show ksz k = 5 + k.size from rfl]
    omega
  | _ :: _, [], h => by simp at h
theorem enc_length {n : Node} (h : right n = true) : (enc n).length = size n := by
  obtain ⟨leaf, ents, kids, keys⟩ := n
  cases leaf with
  | true => unfold enc size; simp [eenc_length]
  | false =>
    obtain ⟨_, h2, _, _⟩ := right_inner.1 h
    unfold enc size
    simp only [Bool.false_eq_true, if_false, List.length_append, Cp.be_length]
    rw [kenc_length _ _ (by rw [List.length_tail]; omega)]
theorem esize_append (a b : List Ent) : esize (a ++ b) = esize a + esize b := by unfold esize; rw [List.map_append, List.sum_append]
theorem ksize_append (a b : List Str) : ksize (a ++ b) = ksize a + ksize b := by unfold ksize; rw [List.map_append, List.sum_append]
theorem esize_cons (x : Ent) (l : List Ent) : esize (x :: l) = esz x + esize l := by unfold esize; rw [List.map_cons, List.sum_cons]
theorem ksize_cons (x : Str) (l : List Str) : ksize (x :: l) = ksz x + ksize l := by unfold ksize; rw [List.map_cons, List.sum_cons]
theorem esize_take_succ (l : List Ent) (k : Nat) (hk : k < l.length) : esize (l.take (k + 1)) = esize (l.take k) + esz l[k] := by
  rw [List.take_succ_eq_append_getElem hk, esize_append]; simp [esize]
theorem ksize_take_succ (l : List Str) (k : Nat) (hk : k < l.length) : ksize (l.take (k + 1)) = ksize (l.take k) + ksz l[k] := by
  rw [List.take_succ_eq_append_getElem hk, ksize_append]; simp [ksize]
theorem esize_len (l : List Ent) : 2 * l.length ≤ esize l := by
  induction l with
  | nil => simp [esize]
  | cons x l ih => rw [esize_cons, List.length_cons]; unfold esz; omega
theorem ksize_len (l : List Str) : 5 * l.length ≤ ksize l := by
  induction l with
  | nil => simp [ksize]
  | cons x l ih => rw [ksize_cons, List.length_cons]; unfold ksz; omega
theorem esize_may {l : List Ent} (h : ∀ x ∈ l, may x.1 x.2 = true) : esize l ≤ 58 * l.length := by
  induction l with
  | nil => simp [esize]
  | cons x l ih =>
    rw [esize_cons, List.length_cons]
    have := ih fun y hy => h y (List.mem_cons_of_mem _ hy)
    have hm := h x List.mem_cons_self
    unfold may at hm
    simp only [Bool.and_eq_true, decide_eq_true_eq] at hm
    unfold esz; omega
theorem ksize_may {l : List Str} (h : ∀ x ∈ l, may x ⟨#[]⟩ = true) : ksize l ≤ 21 * l.length := by
  induction l with
  | nil => simp [ksize]
  | cons x l ih =>
    rw [ksize_cons, List.length_cons]
    have := ih fun y hy => h y (List.mem_cons_of_mem _ hy)
    have hm := h x List.mem_cons_self
    unfold may at hm
    simp only [Bool.and_eq_true, decide_eq_true_eq] at hm
    unfold ksz; omega
def child : List Str → Str → Nat
  | [], _ => 0
  | k :: l, key => if lt key k then 0 else child l key + 1
theorem child_le (l : List Str) (key : Str) : child l key ≤ l.length := by
  induction l with
  | nil => simp [child]
  | cons k l ih => unfold child; split; simp; simp; exact ih
theorem child_iff {l : List Str} (hs : KSrt l) {key : Str} {i : Nat} (hi : i ≤ l.length) (h1 : ∀ j (hj : j < l.length), j < i → lt key l[j] = false) (h2 : ∀ j (hj : j < l.length), i ≤ j → lt key l[j] = true) : child l key = i := by
  induction l generalizing i with
  | nil => simp at hi; subst hi; rfl
  | cons k l ih =>
    unfold child
    cases i with
    | zero =>
      have := h2 0 (by simp) (Nat.le_refl _)
      simp only [List.getElem_cons_zero] at this
      rw [if_pos this]
    | succ i =>
      have := h1 0 (by simp) (by omega)
      simp only [List.getElem_cons_zero] at this
      rw [if_neg (by rw [this]; simp)]
      have hs2 : KSrt l := (List.pairwise_cons.1 hs).2
      rw [ih hs2 (i := i) (by simpa using hi) (fun j hj hji => by have := h1 (j + 1) (by simpa using hj) (by omega); simpa using this) (fun j hj hji => by have := h2 (j + 1) (by simpa using hj) (by omega); simpa using this)]
def halfFrom (all len : Nat) : Nat → Nat → List Ent → Nat
  | _, _, [] => 0
  | i, n, x :: r => if 0 < i ∧ (all ≤ 2 * n ∨ i + 1 = len) then i else halfFrom all len (i + 1) (n + esz x) r
def half (l : List Ent) : Nat := halfFrom (esize l) l.length 0 0 l
def split (n : Node) : Option (Node × Str × Node) :=
  if right n = false ∨ (n.ents.length < 2 ∧ n.kids.length < 2) then none
  else if n.leaf then match n.ents[half n.ents]? with
    | none => none
    | some x => some (mkLeaf (n.ents.take (half n.ents)), x.1, mkLeaf (n.ents.drop (half n.ents)))
  else match n.keys[n.kids.length / 2 - 1]? with
    | none => none
    | some k => some (mkInner (n.kids.take (n.kids.length / 2)) (n.keys.take (n.kids.length / 2 - 1)), k, mkInner (n.kids.drop (n.kids.length / 2)) (n.keys.drop (n.kids.length / 2)))
def join (a : Node) (key : Str) (b : Node) : Node :=
  if a.leaf != b.leaf then a
  else if a.leaf then ⟨true, a.ents ++ b.ents, a.kids ++ b.kids, a.keys ++ b.keys⟩
  else ⟨false, a.ents ++ b.ents, a.kids ++ b.kids, a.keys ++ [key] ++ b.keys⟩
def swap (n : Node) (fr to_ : Nat) (kids : List Int) (keys : List Str) : Node :=
  if n.leaf = true ∨ n.kids.length < to_ ∨ to_ ≤ fr ∨ keys.length ≠ kids.length - 1 then n
  else mkInner (n.kids.take fr ++ kids ++ n.kids.drop to_)
    (n.keys.take (if kids.length = 0 ∧ 0 < fr then fr - 1 else fr) ++ keys ++ n.keys.drop (if kids.length = 0 ∧ fr = 0 then min to_ n.keys.length else to_ - 1))
end Nd
namespace Go.Proofs.YtpfplojkiloldaaGreatDoor
open Go.RowKit Go.Shelf
set_option maxRecDepth 100000 in
theorem err_any (g : Nat) (r : Cp.Rd) (w : World) (h : Blk w g 223 (rdCells r)) : Calls Tryz.prog 125 #[.pointer (some ⟨g, 0, none⟩)] w fun e w' => e = .returned (.int .i64 r.err) ∧ w' = w := by
  have h1 : w.cell? ⟨g, 1, none⟩ = some (.int .i64 r.err) := h.cell 1
  have hl := h.lt
  go_enter Tryz.func125, Tryz.ntmps125
  go_wp2
  go_ret
  exact ⟨rfl, rfl⟩
set_option maxRecDepth 100000 in
theorem textx_any (s : ByteArray) (hs : s.size ≤ 255) (w : World) : Calls Tryz.prog 60 #[.string s] w fun e w' => e = .returned (.tuple #[.string ⟨(Nd.text s).toArray⟩, .int .i64 0]) ∧ Below w.heap.size w w' := by
  have hc := fun W x => str_of_new (P := Tryz.prog) (src := 156) (dst := 9) W x 5 1 Tryz.underlying156 Tryz.underlying5 Tryz.underlying9
  have hx : (⟨[UInt8.ofNat ((s.size : Int)).toNat].toArray⟩ : ByteArray) ++ s = ⟨(Nd.text s).toArray⟩ := by
    rw [Int.toNat_natCast]
    apply ByteArray.ext
    simp [Nd.text]
  have HX := Lib.hid hx
  clear hx
  go_enter Tryz.func60, Tryz.ntmps60
  go_wp2
  go_ret2
  exact ⟨by rw [← HX.out]; rfl, (Below.refl _ _).alloc (Nat.le_refl _) _⟩
set_option maxRecDepth 100000 in
set_option maxHeartbeats 1000000 in
theorem eget_any (A : Option Addr) (c : Nat) (l : List Ent) (k : ByteArray) (w : World) (hr : LS entE w w.heap.size A l) (hl : l.length ≤ 100000) (hrt : En.right l = true) :
    Calls Tryz.prog 50 #[.slice A l.length c, .string k] w fun e w' => e = .returned (match En.get l k with | some v => .tuple #[.string v, .bool true] | none => .tuple #[.string ⟨#[]⟩, .bool false]) ∧ Below w.heap.size w w' := by
  have hf := hid_calls (find_any A c l k w hr (by omega))
  have hRt := fun W (h : LS entE W W.heap.size A l) => right_any A c l W h (by omega)
  rw [hrt] at hRt
  have hs := ((En.right_iff l).1 hrt).2
  have HS := Lib.hid hs
  have HRT := Lib.hid hRt
  obtain ⟨o, ho⟩ : ∃ o, o = En.get l k := ⟨_, rfl⟩
  rw [← ho]
  have HO := Lib.hid ho
  clear hs hRt ho hrt
  go_enter Tryz.func50, Tryz.ntmps50
  go_wp2_with fail
  refine hf.out.mono ?_
  rintro e w2 ⟨i, fd, rfl, h1, h2, h3, h4, h5⟩
  cases fd with
  | true =>
    obtain ⟨hi, hk⟩ := h2 rfl
    have hr2 := hr.up h5
    have hg : o = some l[i].2 := by
      rw [HO.out]
      have hf' : l.find? (fun x => En.eqs x.1 k) = some l[i] := by
        refine List.find?_eq_some_iff_getElem.2 ⟨En.eqs_iff.2 hk, i, hi, rfl, fun j hj => ?_⟩
        rw [Bool.not_eq_true', En.eqs_false]
        have := List.pairwise_iff_getElem.1 HS.out j i (by omega) hi hj
        rw [hk] at this
        exact En.lt_ne this
      unfold En.get
      rw [hf']
      rfl
    obtain ⟨v, hv⟩ : ∃ v, v = l[i].2 := ⟨_, rfl⟩
    rw [← hv] at hg
    subst hg
    have hcon := HRT.out w2 hr2
    clear h2 h3 h4 HO
    go_wp2_with fail
    refine Calls.mono hcon ?_
    rintro e w3 ⟨rfl, h6⟩
    obtain ⟨b, off, rfl, hb, _, g1⟩ := (hr2.up h6).ent hi
    rw [← hv] at g1
    clear hv
    go_wp2
    go_ret2
    exact ⟨rfl, h5.trans (h6.mono h5.size)⟩
  | false =>
    have hn : o = none := by
      rw [HO.out]
      have hf' : l.find? (fun x => En.eqs x.1 k) = none := by
        refine List.find?_eq_none.2 fun x hx => ?_
        simp only [En.eqs_iff]
        intro e
        obtain ⟨j, hj, rfl⟩ := List.getElem_of_mem hx
        have hl := h4 HS.out
        by_cases hji : j < i
        · have := hl.1 j hj hji
          rw [e, En.lt_irrefl] at this; cases this
        · by_cases hje : j = i
          · subst hje; exact h3 rfl hj e
          · have h6 := List.pairwise_iff_getElem.1 HS.out i j (by omega) hj (by omega)
            have h7 := hl.2 i (by omega) (Nat.le_refl _)
            rw [e] at h6
            rw [h7] at h6; cases h6
      unfold En.get
      rw [hf']
      rfl
    subst hn
    clear h2 h3 h4 HO
    go_wp2
    go_ret2
    exact ⟨rfl, h5⟩
end Go.Proofs.YtpfplojkiloldaaGreatDoor
