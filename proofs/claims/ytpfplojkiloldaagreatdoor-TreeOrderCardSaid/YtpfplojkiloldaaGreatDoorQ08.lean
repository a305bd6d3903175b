/- The walks of node.Size, Fits. The walk of node.Encode. The walks of node.Child (with sort.Search at its closure), cowtree.empty. Towards the walks of node.copied, Join, Split, Swap: a boxed node's cells stand; glue of one list. Plain: runs in the one way. Plain: what is not in a set, unions, meets, counts, the least number, over runs in the one way. -/
import Derived.Deep.RegionHeld3
import Derived.Test.YtpfplojkiloldaaGreatDoorQ03
import Derived.Test.YtpfplojkiloldaaGreatDoorQ07
namespace Go.Proofs.YtpfplojkiloldaaGreatDoor
open Go.RowKit Go.Shelf
structure NB (n : Nd.Node) : Prop where
  e : n.ents.length ≤ 100000
  i : n.kids.length ≤ 100000
  k : n.keys.length ≤ 100000
  es : Nd.esize n.ents ≤ 1000000000
  ks : Nd.ksize n.keys ≤ 1000000000
theorem nright_any (v : Value) (n : Nd.Node) (w : World) (h : NS w v n) (hb : NB n) :
    Calls Tryz.prog 56 #[v] w fun e w' => e = .returned (.bool (Nd.right n)) ∧ Below w.heap.size w w' := by
  obtain ⟨Ae, ce, Ai, ci, Ay, cy, rfl, h1, h2, h3⟩ := h
  cases hlf : n.leaf with
  | true => exact nright_leaf Ae Ai Ay ce ci cy n hlf w h1 hb.e hb.i hb.k
  | false => exact nright_inner Ae Ai Ay ce ci cy n hlf w h2 h3 hb.e hb.i hb.k
theorem ksize_take_le (l : List ByteArray) (k : Nat) : Nd.ksize (l.take k) ≤ Nd.ksize l := by
  have := Nd.ksize_append (l.take k) (l.drop k)
  rw [List.take_append_drop] at this
  omega
set_option maxRecDepth 100000 in
set_option maxHeartbeats 1000000 in
theorem nsize_leaf (Ae Ai Ay : Option Addr) (ce ci cy : Nat) (n : Nd.Node) (hlf : n.leaf = true) (w : World) (he : SV entE w Ae ce n.ents) (hb : NB n) :
    Calls Tryz.prog 93 #[nodeV true Ae n.ents.length ce Ai n.kids.length ci Ay n.keys.length cy] w fun e w' => e = .returned (.int .i64 (Nd.size n : Nat)) ∧ Below w.heap.size w w' := by
  have hq : Nd.size n = Nd.esize n.ents := by unfold Nd.size; rw [if_pos hlf]
  rw [hq]
  have hE := hid_calls (esize_any Ae ce n.ents (w.alloc (.cells #[.bool true, .slice Ae n.ents.length ce, .slice Ai n.kids.length ci, .slice Ay n.keys.length cy] 58)) (he.ls.up ((Below.refl _ _).alloc (Nat.le_refl _) _)) hb.e hb.es)
  unfold nodeV
  generalize n.kids.length = ni at *
  generalize n.keys.length = ny at *
  generalize Nd.esize n.ents = S at *
  clear hq he
  go_enter Tryz.func93, Tryz.ntmps93
  go_wp2_with fail
  refine hE.out.mono ?_
  rintro e w1 ⟨rfl, hb1⟩
  go_wp2
  go_ret
  exact ⟨rfl, ((Below.refl _ _).alloc (Nat.le_refl _) _).trans (hb1.mono (by simp))⟩
set_option maxRecDepth 100000 in
set_option maxHeartbeats 1000000 in
theorem nsize_inner (Ae Ai Ay : Option Addr) (ce ci cy : Nat) (n : Nd.Node) (hlf : n.leaf = false) (w : World) (hy : SV keyE w Ay cy n.keys) (hb : NB n) :
    Calls Tryz.prog 93 #[nodeV false Ae n.ents.length ce Ai n.kids.length ci Ay n.keys.length cy] w fun e w' => e = .returned (.int .i64 (Nd.size n : Nat)) ∧ Below w.heap.size w w' := by
  have hq : Nd.size n = 4 + Nd.ksize n.keys := by unfold Nd.size; rw [if_neg (by rw [hlf]; simp)]
  rw [hq]
  have hbe := (Below.refl w.heap.size w).alloc (Nat.le_refl _) (.cells #[.bool false, .slice Ae n.ents.length ce, .slice Ai n.kids.length ci, .slice Ay n.keys.length cy] 58)
  have hk := hy.ls.below hbe
  have hl3 := hb.k
  have hT := Lib.hid (fun k => ksize_take_le n.keys k)
  have hks := hb.ks
  unfold nodeV
  generalize hkl : n.keys = ks at *
  clear hkl hy hq hb
  generalize n.kids.length = ni at *
  generalize n.ents.length = ne at *
  obtain ⟨R, hR⟩ : ∃ R, R = Nd.ksize ks := ⟨_, rfl⟩
  rw [← hR] at hks ⊢
  have HR := Lib.hid hR
  clear hR
  go_enter Tryz.func93, Tryz.ntmps93
  go_wp2
  go_loop [3, 5, 14] (fun s _ i => ∃ k m : Nat, k ≤ ks.length ∧ i = .int .i64 k ∧ s = .int .i64 m ∧ m ≤ 2000000000 ∧ Hid (m = 4 + Nd.ksize (ks.take k))) (fun _ _ i => ks.length - (intOf i).toNat)
  case atStart => exact ⟨0, 4, by omega, rfl, rfl, by omega, Lib.hid rfl⟩
  case round =>
    obtain ⟨k, m, hkk, rfl, rfl, hm, HM⟩ := hrel
    by_cases hlt : k < ks.length
    · obtain ⟨b1, o1, rfl, hb1, g0⟩ := hk.key hlt
      have h1 := Nd.ksize_take_succ ks k hlt
      have h2 := hT.out (k + 1)
      have hmm := HM.out
      rw [h1] at h2
      have H1 := Lib.hid h1
      obtain ⟨x, hx⟩ : ∃ x, x = ks[k] := ⟨_, rfl⟩
      rw [← hx] at g0 h2
      have h3 : m + (5 + x.size) ≤ 1000000004 := by rw [HR.out] at hks; have : Nd.ksz x = 5 + x.size := rfl; omega
      have HX := Lib.hid hx
      clear h1 hx h2 hmm
      have h5 : 0 ≤ (x.size : Int) := by omega
      go_wp2
      go_round
      case rel =>
        refine ⟨k + 1, m + (5 + x.size), by omega, by go_num, by go_num, by omega, Lib.hid ?_⟩
        rw [H1.out, HM.out, ← HX.out]; show _ = _ + (_ + (5 + x.size)); omega
      case measure => simp [intOf]; omega
    · obtain rfl : k = ks.length := by omega
      go_wp2
      go_ret
      refine ⟨?_, hbe⟩
      have e1 : m = 4 + R := by rw [HM.out, HR.out, List.take_length]
      rw [e1]; rfl
theorem nsize_any (v : Value) (n : Nd.Node) (w : World) (h : NS w v n) (hb : NB n) :
    Calls Tryz.prog 93 #[v] w fun e w' => e = .returned (.int .i64 (Nd.size n : Nat)) ∧ Below w.heap.size w w' := by
  obtain ⟨Ae, ce, Ai, ci, Ay, cy, rfl, h1, h2, h3⟩ := h
  cases hlf : n.leaf with
  | true => exact nsize_leaf Ae Ai Ay ce ci cy n hlf w h1 hb
  | false => exact nsize_inner Ae Ai Ay ce ci cy n hlf w h3 hb
set_option maxRecDepth 100000 in
set_option maxHeartbeats 1000000 in
theorem nfits_any (v : Value) (n : Nd.Node) (w : World) (h : NS w v n) (hb : NB n) :
    Calls Tryz.prog 57 #[v] w fun e w' => e = .returned (.bool (Nd.fits n)) ∧ Below w.heap.size w w' := by
  obtain ⟨Ae, ce, Ai, ci, Ay, cy, rfl, h1, h2, h3⟩ := h
  have hns : NS w (nodeV n.leaf Ae n.ents.length ce Ai n.kids.length ci Ay n.keys.length cy) n := ⟨_, _, _, _, _, _, rfl, h1, h2, h3⟩
  have hbe := (Below.refl w.heap.size w).alloc (Nat.le_refl _) (.cells #[.bool n.leaf, .slice Ae n.ents.length ce, .slice Ai n.kids.length ci, .slice Ay n.keys.length cy] 58)
  have hns1 := hns.up hbe
  have hR := hid_calls (nright_any _ n _ hns1 hb)
  have HS := Lib.hid (fun W (hW : NS W (nodeV n.leaf Ae n.ents.length ce Ai n.kids.length ci Ay n.keys.length cy) n) => nsize_any _ n W hW hb)
  have hB := Blk.new w 58 #[.bool n.leaf, .slice Ae n.ents.length ce, .slice Ai n.kids.length ci, .slice Ay n.keys.length cy]
  have hq : Nd.fits n = (Nd.right n && decide (Nd.size n ≤ 240)) := rfl
  rw [hq]
  have hsb : Nd.size n ≤ 1000000004 := by unfold Nd.size; have := hb.es; have := hb.ks; split <;> omega
  have HNS := Lib.hid hns1
  clear h1 h2 h3 hns hns1 hq hb
  unfold nodeV at *
  obtain ⟨s, hs⟩ : ∃ s, s = Nd.size n := ⟨_, rfl⟩
  rw [← hs] at HS hsb ⊢
  clear hs
  cases hr : Nd.right n with
  | false =>
    rw [hr] at hR
    clear hr
    go_enter Tryz.func57, Tryz.ntmps57
    go_wp2_with fail
    refine hR.out.mono ?_
    rintro e w1 ⟨rfl, hb1⟩
    go_wp2
    go_ret
    exact ⟨rfl, hbe.trans (hb1.mono hbe.size)⟩
  | true =>
    rw [hr] at hR
    clear hr
    go_enter Tryz.func57, Tryz.ntmps57
    go_wp2_with fail
    refine hR.out.mono ?_
    rintro e w1 ⟨rfl, hb1⟩
    have hB1 := hB.below hb1 hB.lt
    have c0 := hB1.cell 0
    have c1 := hB1.cell 1
    have c2 := hB1.cell 2
    have c3 := hB1.cell 3
    have hl1 := hB1.lt
    have hS1 := Lib.hid (HS.out w1 (HNS.out.up hb1))
    have hbb := hbe.trans (hb1.mono hbe.size)
    clear hb1
    go_wp2_with fail
    refine hS1.out.mono ?_
    rintro e w2 ⟨rfl, hb2⟩
    go_wp2
    go_ret
    exact ⟨by simp; omega, hbb.trans (hb2.mono hbb.size)⟩
end Go.Proofs.YtpfplojkiloldaaGreatDoor
namespace Go.Proofs.YtpfplojkiloldaaGreatDoor
open Go.RowKit Go.Shelf
set_option maxRecDepth 100000 in
set_option maxHeartbeats 2000000 in
theorem nencode_leaf (Ae Ai Ay : Option Addr) (ce ci cy : Nat) (n : Nd.Node) (hlf : n.leaf = true) (hfit : Nd.fits n = true) (w : World) (h : NS w (nodeV true Ae n.ents.length ce Ai n.kids.length ci Ay n.keys.length cy) n) (he : SV entE w Ae ce n.ents) (hb : NB n) :
    Calls Tryz.prog 31 #[nodeV true Ae n.ents.length ce Ai n.kids.length ci Ay n.keys.length cy] w fun e w' => e = .returned (.tuple #[.int .u8 1, .string (Nd.str (Nd.enc n)), .int .i64 0]) ∧ Below w.heap.size w w' := by
  have hrt : Nd.right n = true := by unfold Nd.fits at hfit; exact (Bool.and_eq_true _ _ ▸ hfit).1
  have her : En.right n.ents = true := by
    unfold Nd.right at hrt; rw [if_pos hlf] at hrt; exact (Bool.and_eq_true _ _ ▸ hrt).1
  have hq : Nd.enc n = encS n.ents := by unfold Nd.enc encS; rw [if_pos hlf, her]; rfl
  rw [hq]
  have hbe := (Below.refl w.heap.size w).alloc (Nat.le_refl _) (.cells #[.bool true, .slice Ae n.ents.length ce, .slice Ai n.kids.length ci, .slice Ay n.keys.length cy] 58)
  have hB := Blk.new w 58 #[.bool true, .slice Ae n.ents.length ce, .slice Ai n.kids.length ci, .slice Ay n.keys.length cy]
  have hns1 := h.up hbe
  have hR := hid_calls (nright_any _ n _ hns1 hb)
  rw [hrt] at hR
  have HF := Lib.hid (fun W (hW : NS W (nodeV true Ae n.ents.length ce Ai n.kids.length ci Ay n.keys.length cy) n) => nfits_any _ n W hW hb)
  rw [hfit] at HF
  have HE := Lib.hid (fun W (hW : SV entE W Ae ce n.ents) => eencode_any Ae ce n.ents W hW.ls hb.e)
  rw [her] at HE
  have HNS := Lib.hid hns1
  have HSV := Lib.hid (he.up hbe)
  clear hrt her hfit hq hns1 he h hb hlf
  unfold nodeV at *
  generalize Nd.str (encS n.ents) = S at *
  go_enter Tryz.func31, Tryz.ntmps31
  go_wp2_with fail
  refine hR.out.mono ?_
  rintro e w1 ⟨rfl, hb1⟩
  have hB1 := hB.below hb1 hB.lt
  have c0 := hB1.cell 0
  have c1 := hB1.cell 1
  have c2 := hB1.cell 2
  have c3 := hB1.cell 3
  have hl1 := hB1.lt
  have hF1 := Lib.hid (HF.out w1 (HNS.out.up hb1))
  have hbb := hbe.trans (hb1.mono hbe.size)
  have HSV1 := Lib.hid (HSV.out.up hb1)
  clear hb1
  go_wp2_with fail
  refine hF1.out.mono ?_
  rintro e w2 ⟨rfl, hb2⟩
  have hB2 := hB1.below hb2 hB1.lt
  have d0 := hB2.cell 0
  have d1 := hB2.cell 1
  have hl2 := hB2.lt
  have hE2 := Lib.hid (HE.out w2 (HSV1.out.up hb2))
  have hbb2 := hbb.trans (hb2.mono hbb.size)
  clear c0 c1 c2 c3 hl1 hb2 hB1
  go_wp2_with fail
  refine hE2.out.mono ?_
  rintro e w3 ⟨rfl, hb3⟩
  go_wp2
  go_ret3
  exact ⟨rfl, hbb2.trans (hb3.mono hbb2.size)⟩
theorem kenc_take_succ (ks : List ByteArray) (is : List Int) (hl : ks.length = is.length) (k : Nat) (hk : k < ks.length) (hk2 : k < is.length) : Nd.kenc (ks.take (k + 1)) (is.take (k + 1)) = Nd.kenc (ks.take k) (is.take k) ++ (Nd.text ks[k] ++ Cp.be 4 (is[k]'hk2).toNat) := by
  unfold Nd.kenc
  have hz : k < (ks.zip is).length := by rw [List.length_zip]; omega
  have e : ∀ j, (ks.take j).zip (is.take j) = (ks.zip is).take j := fun j => (List.take_zipWith ..).symm
  rw [e, e, List.take_succ_eq_append_getElem hz, List.flatMap_append]
  simp [Nd.kenc1]
theorem putN_any (n : Int) (h0 : 2 ≤ n) (h1 : n ≤ 4294967295) (w : World) : Calls Tryz.prog 59 #[.int .i64 4, .int .i64 n] w fun e w' => e = .returned (.tuple #[.string (Nd.str (Cp.be 4 n.toNat)), .int .i64 0]) ∧ Below w.heap.size w w' := put4_fits n w (by omega) (by omega)
set_option maxRecDepth 100000 in
set_option maxHeartbeats 400000 in
theorem nencode_inner (Ae Ai Ay : Option Addr) (ce ci cy : Nat) (n : Nd.Node) (hlf : n.leaf = false) (hfit : Nd.fits n = true) (w : World) (h : NS w (nodeV false Ae n.ents.length ce Ai n.kids.length ci Ay n.keys.length cy) n) (hi : SV intE w Ai ci n.kids) (hy : SV keyE w Ay cy n.keys) (hb : NB n) :
    Calls Tryz.prog 31 #[nodeV false Ae n.ents.length ce Ai n.kids.length ci Ay n.keys.length cy] w fun e w' => e = .returned (.tuple #[.int .u8 2, .string (Nd.str (Nd.enc n)), .int .i64 0]) ∧ Below w.heap.size w w' := by
  have hrt : Nd.right n = true := by unfold Nd.fits at hfit; exact (Bool.and_eq_true _ _ ▸ hfit).1
  have hbe := (Below.refl w.heap.size w).alloc (Nat.le_refl _) (.cells #[.bool false, .slice Ae n.ents.length ce, .slice Ai n.kids.length ci, .slice Ay n.keys.length cy] 58)
  have hB := Blk.new w 58 #[.bool false, .slice Ae n.ents.length ce, .slice Ai n.kids.length ci, .slice Ay n.keys.length cy]
  have hns1 := h.up hbe
  have hR := hid_calls (nright_any _ n _ hns1 hb)
  rw [hrt] at hR
  have HF := Lib.hid (fun W (hW : NS W (nodeV false Ae n.ents.length ce Ai n.kids.length ci Ay n.keys.length cy) n) => nfits_any _ n W hW hb)
  rw [hfit] at HF
  have HNS := Lib.hid hns1
  have hi1 := hi.ls.up hbe
  have hy1 := hy.ls.up hbe
  have hlk := hb.k
  have hrt2 : Nd.right ⟨false, n.ents, n.kids, n.keys⟩ = true := by
    obtain ⟨leaf, ents, kids, keys⟩ := n
    simp only at hlf
    subst hlf
    exact hrt
  obtain ⟨he0, hkl, hok, hkf⟩ := Nd.right_inner.1 hrt2
  have hm := ((Nd.keys_iff n.keys).1 hkf).1
  obtain ⟨i0, is, hkids⟩ : ∃ i0 is, n.kids = i0 :: is := by
    cases hkk : n.kids with
    | nil => rw [hkk] at hkl; simp at hkl
    | cons i0 is => exact ⟨i0, is, rfl⟩
  focus
    have hq : Nd.enc n = Cp.be 4 i0.toNat ++ Nd.kenc n.keys is := by unfold Nd.enc; rw [if_neg (by rw [hlf]; simp), hkids]; rfl
    rw [hq]
    have hil : n.keys.length = is.length := by rw [hkids] at hkl; simpa using hkl
    have HIL := Lib.hid hil
    have HKL := Lib.hid (show n.kids.length = is.length + 1 by rw [hkids]; rfl)
    have HK0 := Lib.hid (show ∀ h, n.kids[0]'h = i0 by rw [hkids]; intro h; rfl)
    have HKS := Lib.hid (show ∀ k h h2, n.kids[k + 1]'h = is[k]'h2 by rw [hkids]; intro k h h2; rfl)
    have hi0 := hok i0 (by rw [hkids]; exact List.mem_cons_self)
    have HM := Lib.hid hm
    have HOK := Lib.hid (show ∀ x ∈ is, 2 ≤ x ∧ x ≤ 4294967295 from fun x hx => hok x (by rw [hkids]; exact List.mem_cons_of_mem _ hx))
    have htake := Lib.hid (fun k hk hk2 => kenc_take_succ n.keys is hil k hk hk2)
    obtain ⟨R, hR2⟩ : ∃ R, R = Nd.str (Cp.be 4 i0.toNat ++ Nd.kenc n.keys is) := ⟨_, rfl⟩
    rw [← hR2]
    have HRR := Lib.hid hR2
    have hP0 := Lib.hid (fun W => putN_any i0 hi0.1 hi0.2 W)
    have hz0 : (Nd.str (Cp.be 4 i0.toNat)).size ≤ 4 := by rw [str_size, Cp.be_length]; omega
    obtain ⟨P0, hP⟩ : ∃ P, P = Nd.str (Cp.be 4 i0.toNat) := ⟨_, rfl⟩
    rw [← hP] at hP0 hz0
    have HP := Lib.hid hP
    clear hrt hrt2 hfit hq hns1 hi hy h hb hm hok hkf hR2 hP hkids hi0 he0 hlf hkl hil
    unfold nodeV at *
    go_enter Tryz.func31, Tryz.ntmps31
    go_wp2_with fail
    refine hR.out.mono ?_
    rintro e w1 ⟨rfl, hb1⟩
    have hB1 := hB.below hb1 hB.lt
    have c0 := hB1.cell 0
    have c1 := hB1.cell 1
    have c2 := hB1.cell 2
    have c3 := hB1.cell 3
    have hl1 := hB1.lt
    have hF1 := Lib.hid (HF.out w1 (HNS.out.up hb1))
    have hbb := hbe.trans (hb1.mono hbe.size)
    have hi2 := hi1.up hb1
    have hy2 := hy1.up hb1
    clear hb1
    go_wp2_with fail
    refine hF1.out.mono ?_
    rintro e w2 ⟨rfl, hb2⟩
    have hB2 := hB1.below hb2 hB1.lt
    have d0 := hB2.cell 0
    have d2 := hB2.cell 2
    have hl2 := hB2.lt
    have hbb2 := hbb.trans (hb2.mono hbb.size)
    have hi3 := hi2.up hb2
    have hy3 := hy2.up hb2
    have hkp : 0 < n.kids.length := by rw [HKL.out]; omega
    have g0 : ∃ b off, Ai = some ⟨b, off, none⟩ ∧ b < w2.heap.size ∧ w2.cell? ⟨b, off, none⟩ = some (.int .i64 i0) := by
      obtain ⟨b, off, e, hb, hc⟩ := hi3.int (k := 0) (by rw [HKL.out]; omega)
      rw [HK0.out] at hc
      exact ⟨b, off, e, hb, by simpa using hc⟩
    obtain ⟨bi, oi, hAi, hbi, g0⟩ := g0
    subst hAi
    clear c0 c1 c2 c3 hl1 hb2 hB1 hi2 hy2 hi1 hy1
    go_wp2_with fail
    refine (hP0.out _).mono ?_
    rintro e w3 ⟨rfl, hb3⟩
    have hB3 := hB2.below hb3 hB2.lt
    have e2 := hB3.cell 2
    have e3 := hB3.cell 3
    have hl3 := hB3.lt
    have hbb3 := hbb2.trans (hb3.mono hbb2.size)
    have hi4 := hi3.up hb3
    have hy4 := hy3.up hb3
    clear d0 d2 g0 hi3 hy3 hb3 hB2
    go_wp2
    go_loopw [7, 45] (fun s i wr => ∃ (k : Nat) (S : ByteArray), k ≤ n.keys.length ∧ i = .int .i64 k ∧ s = .string S ∧ Hid (S = Nd.str (Cp.be 4 i0.toNat ++ Nd.kenc (n.keys.take k) (is.take k))) ∧ S.size ≤ 4 + 100 * k ∧ Below w3.heap.size w3 wr) (fun _ i _ => n.keys.length - (intOf i).toNat)
    case atStart => exact ⟨0, P0, by omega, rfl, rfl, Lib.hid (by rw [HP.out]; simp [Nd.kenc]), by omega, Below.refl _ _⟩
    case round =>
      obtain ⟨k, S, hk, rfl, rfl, HSV, hS, hbe3⟩ := hrel
      by_cases hlt : k < n.keys.length
      · obtain ⟨b2, o2, rfl, hb2, g0⟩ := (hy4.below hbe3).key hlt
        obtain ⟨b3, o3, e5, hb3, g1⟩ := (hi4.below hbe3).int (k := k + 1) (by rw [HKL.out, ← HIL.out]; omega)
        injection e5 with e5; injection e5 with e5 e6; subst e5 e6
        have hm := HM.out _ (List.getElem_mem hlt)
        have hkp1 : k + 1 < n.kids.length := by rw [HKL.out, ← HIL.out]; omega
        have hki' : k < is.length := by rw [← HIL.out]; exact hlt
        have hki := HOK.out (is[k]'hki') (List.getElem_mem _)
        have htk := Lib.hid (htake.out k hlt hki')
        rw [HKS.out k _ hki'] at g1
        obtain ⟨x, hx⟩ : ∃ x, x = n.keys[k] := ⟨_, rfl⟩
        obtain ⟨y, hy⟩ : ∃ y, y = is[k]'hki' := ⟨_, rfl⟩
        rw [← hx] at g0 hm
        rw [← hy] at g1 hki
        have HX := Lib.hid hx
        have HY := Lib.hid hy
        clear hx hy
        unfold En.may at hm
        simp only [Bool.and_eq_true, decide_eq_true_eq] at hm
        obtain ⟨⟨m1, m2⟩, m3⟩ := hm
        have hSx : Hid (S ++ (Nd.str (Nd.text x) ++ Nd.str (Cp.be 4 y.toNat)) = Nd.str (Cp.be 4 i0.toNat ++ Nd.kenc (n.keys.take (k + 1)) (is.take (k + 1)))) := Lib.hid (by rw [htk.out, HSV.out, str_app, str_app, ← HX.out, ← HY.out, List.append_assoc])
        have z1 : (Nd.str (Nd.text x)).size ≤ 17 := by rw [str_size, Nd.text_length]; omega
        have z2 : (Nd.str (Cp.be 4 y.toNat)).size ≤ 4 := by rw [str_size, Cp.be_length]; omega
        have t1 := Lib.hid (fun W => textN_any x (by omega) W)
        have t2 := Lib.hid (fun W => putN_any y hki.1 hki.2 W)
        generalize Nd.str (Nd.text x) = S1 at *
        generalize Nd.str (Cp.be 4 y.toNat) = S2 at *
        have hb2' : b2 < wr.heap.size := by have := hbe3.size; omega
        have hb3' : bi < wr.heap.size := by have := hbe3.size; omega
        have hB4 := hB3.below hbe3 hB3.lt
        have hl4 := hB4.lt
        go_wp2_with fail
        refine (t1.out _).mono ?_
        rintro e w5 ⟨rfl, hb5⟩
        have hB5 := hB4.below hb5 hB4.lt
        have f2 := hB5.cell 2
        have hl5 := hB5.lt
        have g5 := (hb5.cell (p := ⟨bi, oi + (k + 1), none⟩) hb3').trans g1
        have hb5' : bi < w5.heap.size := by have := hb5.size; omega
        have hbe5 := hbe3.trans (hb5.mono hbe3.size)
        clear hb5 hB5 hB4
        go_wp2_with fail
        refine (t2.out _).mono ?_
        rintro e w6 ⟨rfl, hb6⟩
        have hbe6 := hbe5.trans (hb6.mono hbe5.size)
        clear hb6
        have hsz : (S.size : Int) + ((S1.size : Int) + S2.size) ≤ 1000000000 := by omega
        have hsz2 : (S1.size : Int) + S2.size ≤ 1000000000 := by omega
        go_wp2
        go_roundw
        case rel => exact ⟨k + 1, _, by omega, by go_num, rfl, hSx, by rw [ByteArray.size_append, ByteArray.size_append]; omega, hbe6⟩
        case measure => simp [intOf]; omega
      · obtain rfl : k = n.keys.length := by omega
        go_wp2
        go_ret3
        refine ⟨?_, hbb3.trans (hbe3.mono hbb3.size)⟩
        have hs : S = R := by rw [HSV.out, HRR.out, List.take_length, HIL.out, List.take_length]
        rw [hs]; rfl
end Go.Proofs.YtpfplojkiloldaaGreatDoor
namespace Go.Proofs.YtpfplojkiloldaaGreatDoor
open Go.RowKit Go.Shelf
theorem ksrt_lt {l : List ByteArray} (h : Nd.KSrt l) {i j : Nat} (hij : i ≤ j) (hj : j < l.length) {k : ByteArray} (hk : En.lt k l[i] = true) : En.lt k l[j] = true := by
  by_cases e : i = j
  · subst e; exact hk
  · exact En.lt_trans hk (List.pairwise_iff_getElem.1 h i j (by omega) hj (by omega))
theorem ksrt_ge {l : List ByteArray} (h : Nd.KSrt l) {i j : Nat} (hij : i ≤ j) (hj : j < l.length) {k : ByteArray} (hk : En.lt k l[j] = false) : En.lt k (l[i]'(by omega)) = false := by
  cases hc : En.lt k (l[i]'(by omega)) with
  | false => rfl
  | true => rw [ksrt_lt h hij hj hc] at hk; cases hk
theorem gtr_eq (x k : ByteArray) : (!Op.bytesLess x.toList k.toList && !x.toList == k.toList) = Op.bytesLess k.toList x.toList := by
  have e1 : Op.bytesLess x.toList k.toList = En.lt x k := rfl
  have e2 : Op.bytesLess k.toList x.toList = En.lt k x := rfl
  rw [e1, e2]
  cases h1 : En.lt x k with
  | true => rw [En.lt_not h1]; rfl
  | false =>
    rcases En.ge_of h1 with e | e
    · subst e; rw [En.lt_irrefl]; simp
    · rw [e]
      have hne : (x.toList == k.toList) = false := by
        rw [beq_eq_false_iff_ne]
        intro hl
        have : En.lt k x = En.lt k k := by unfold En.lt; rw [hl]
        rw [En.lt_irrefl, e] at this; cases this
      rw [hne]; rfl
set_option maxRecDepth 100000 in
set_option maxHeartbeats 400000 in
theorem child1_any (g1 g2 : Nat) (cs : Array Value) (Ay : Option Addr) (cy : Nat) (ks : List ByteArray) (key : ByteArray) (i : Nat) (hi : i < ks.length) (w : World) (hB : Blk w g1 58 cs) (hc3 : cs[3]? = some (.slice Ay ks.length cy)) (hK : Blk w g2 9 #[.string key]) (hl : LS keyE w w.heap.size Ay ks) :
    Calls Tryz.prog 82 #[.int .i64 i, .pointer (some ⟨g1, 0, none⟩), .pointer (some ⟨g2, 0, none⟩)] w fun e w' => e = .returned (.bool (En.lt key ks[i])) ∧ Below w.heap.size w w' := by
  obtain ⟨b, off, rfl, hb, g0⟩ := hl.key hi
  have c3 := hB.cell 3
  rw [hc3] at c3
  have k0 := hK.cell 0
  have l1 := hB.lt
  have l2 := hK.lt
  generalize ks[i] = x at *
  have hq : En.lt key x = Op.bytesLess key.toList x.toList := rfl
  rw [hq]
  clear hq
  go_enter Tryz.func82, Tryz.ntmps82
  go_wp2_with fail
  go_quiet (fail)
  go_wp2
  go_ret
  exact ⟨congrArg (fun b => Ending.returned (.bool b)) (gtr_eq x key), below_drewN (Below.refl _ _) _⟩
set_option maxRecDepth 100000 in
set_option maxHeartbeats 2000000 in
theorem search_child (g1 g2 : Nat) (cs : Array Value) (Ay : Option Addr) (cy : Nat) (ks : List ByteArray) (key : ByteArray) (hs : Nd.KSrt ks) (hlen : ks.length ≤ 1000000) (w : World) (hB : Blk w g1 58 cs) (hc3 : cs[3]? = some (.slice Ay ks.length cy)) (hK : Blk w g2 9 #[.string key]) (hl : LS keyE w w.heap.size Ay ks) :
    Calls Tryz.prog 81 #[.int .i64 ks.length, .func (.func 82) #[] #[.pointer (some ⟨g1, 0, none⟩), .pointer (some ⟨g2, 0, none⟩)]] w fun e w' => e = .returned (.int .i64 (Nd.child ks key : Nat)) ∧ Below w.heap.size w w' := by
  have HC := Lib.hid (fun i hi W hB hK hl => child1_any g1 g2 cs Ay cy ks key i hi W hB hc3 hK hl)
  have HB := Lib.hid hB
  have HK := Lib.hid hK
  have HL := Lib.hid hl
  have hl1 := hB.lt
  have hl2 := hK.lt
  have HI := Lib.hid (fun i h h1 h2 => Nd.child_iff (l := ks) hs (key := key) (i := i) h h1 h2)
  have HS := Lib.hid hs
  obtain ⟨R, hR⟩ : ∃ R, R = Nd.child ks key := ⟨_, rfl⟩
  rw [← hR]
  have HR := Lib.hid hR
  clear hR hB hK hl hc3 hs
  go_enter Tryz.func81, Tryz.ntmps81
  go_wp2
  go_loopg [5, 6, 7] ks.length (fun g s7 s8 _ wr => ∃ lo hi : Nat, s7 = .int .i64 lo ∧ s8 = .int .i64 hi ∧ lo ≤ hi ∧ hi ≤ ks.length ∧ hi - lo ≤ g ∧ Below w.heap.size w wr ∧ Hid ((∀ j (hj : j < ks.length), j < lo → En.lt key ks[j] = false) ∧ (∀ j (hj : j < ks.length), hi ≤ j → En.lt key ks[j] = true)))
  case atStart => exact ⟨0, ks.length, rfl, rfl, Nat.zero_le _, Nat.le_refl _, by omega, Below.refl _ _, Lib.hid ⟨fun j hj h => absurd h (by omega), fun j hj h => absurd h (by omega)⟩⟩
  case round =>
    obtain ⟨lo, hi, rfl, rfl, hlh, hin, hg, hbe, HJ⟩ := hrel
    by_cases hlt : lo < hi
    · have hm : (lo + hi) / 2 < ks.length := by omega
      have hc := HC.out _ hm wr (HB.out.below hbe hl1) (HK.out.below hbe hl2) (HL.out.up hbe)
      obtain ⟨q, hq⟩ : ∃ q, q = (lo + hi) / 2 := ⟨_, rfl⟩
      have hqi : ((lo : Int) + (hi : Int)) / 2 = (q : Int) := by omega
      have hq1 : lo ≤ q := by omega
      have hq2 : q < hi := by omega
      have hm2 : q < ks.length := by omega
      have hsl := Lib.hid (fun j (h1 : q ≤ j) (hj : j < ks.length) (hk : En.lt key (ks[q]'hm2) = true) => ksrt_lt HS.out h1 hj (k := key) hk)
      have hsg := Lib.hid (fun j (h1 : j ≤ q) (hj : q < ks.length) (hk : En.lt key ks[q] = false) => ksrt_ge HS.out h1 hj (k := key) hk)
      have hcq : Calls Tryz.prog 82 #[.int .i64 q, .pointer (some ⟨g1, 0, none⟩), .pointer (some ⟨g2, 0, none⟩)] wr fun e w' => e = .returned (.bool (En.lt key (ks[q]'hm2))) ∧ Below wr.heap.size wr w' := by
        subst hq; exact hc
      clear hc hq
      cases hlx : En.lt key (ks[q]'hm2) with
      | false =>
        rw [hlx] at hcq
        have HCQ := Lib.hid hcq
        have HLX := Lib.hid hlx
        clear hlx hcq
        go_wp2_with fail
        refine Calls.mono HCQ.out ?_
        rintro e w2 ⟨rfl, b3⟩
        go_wp2
        go_roundg (hi - (q + 1))
        case measure => omega
        case rel =>
          refine ⟨q + 1, hi, by go_num, rfl, by omega, hin, Nat.le_refl _, hbe.trans (b3.mono hbe.size), Lib.hid ⟨fun j hj hj2 => ?_, HJ.out.2⟩⟩
          exact hsg.out j (by omega) hm2 HLX.out
      | true =>
        rw [hlx] at hcq
        have HCQ := Lib.hid hcq
        have HLX := Lib.hid hlx
        clear hlx hcq
        go_wp2_with fail
        refine Calls.mono HCQ.out ?_
        rintro e w2 ⟨rfl, b3⟩
        go_wp2
        go_roundg (q - lo)
        case measure => omega
        case rel =>
          refine ⟨lo, q, rfl, by go_num, by omega, by omega, Nat.le_refl _, hbe.trans (b3.mono hbe.size), Lib.hid ⟨HJ.out.1, fun j hj hj2 => ?_⟩⟩
          exact hsl.out j hj2 hj HLX.out
    · obtain rfl : lo = hi := by omega
      go_wp2
      go_ret
      refine ⟨?_, hbe⟩
      have e1 : lo = R := by rw [HR.out, HI.out lo hin HJ.out.1 HJ.out.2]
      rw [e1]; rfl
set_option maxRecDepth 100000 in
set_option maxHeartbeats 1000000 in
theorem nchild_any (v : Value) (n : Nd.Node) (key : ByteArray) (w : World) (h : NS w v n) (hb : NB n) (hs : Nd.KSrt n.keys) :
    Calls Tryz.prog 51 #[v, .string key] w fun e w' => e = .returned (.int .i64 (Nd.child n.keys key : Nat)) ∧ Below w.heap.size w w' := by
  obtain ⟨Ae, ce, Ai, ci, Ay, cy, rfl, h1, h2, h3⟩ := h
  have hb1 := (Below.refl w.heap.size w).alloc (Nat.le_refl _) (.cells #[.bool n.leaf, .slice Ae n.ents.length ce, .slice Ai n.kids.length ci, .slice Ay n.keys.length cy] 58)
  have hbe := hb1.alloc hb1.size (.cells #[.string key] 9)
  have hB := (Blk.new w 58 #[.bool n.leaf, .slice Ae n.ents.length ce, .slice Ai n.kids.length ci, .slice Ay n.keys.length cy]).alloc (.cells #[.string key] 9)
  have hK := Blk.new (w.alloc (.cells #[.bool n.leaf, .slice Ae n.ents.length ce, .slice Ai n.kids.length ci, .slice Ay n.keys.length cy] 58)) 9 #[.string key]
  have hS := hid_calls (search_child w.heap.size (w.heap.size + 1) _ Ay cy n.keys key hs (by have := hb.k; omega) _ hB rfl (by simpa using hK) (h3.ls.up hbe))
  have hk := hb.k
  generalize Nd.child n.keys key = R at *
  clear h1 h2 h3 hB hK hs hb hb1
  unfold nodeV
  go_enter Tryz.func51, Tryz.ntmps51
  go_wp2_with fail
  refine hS.out.mono ?_
  rintro e w1 ⟨rfl, hb2⟩
  go_wp2
  go_ret
  exact ⟨rfl, hbe.trans (hb2.mono hbe.size)⟩
set_option maxRecDepth 100000 in
theorem nempty_any (v : Value) (n : Nd.Node) (w : World) (h : NS w v n) (hb : NB n) :
    Calls Tryz.prog 108 #[v] w fun e w' => e = .returned (.bool (decide (n.ents.length + n.kids.length = 0))) ∧ Below w.heap.size w w' := by
  obtain ⟨Ae, ce, Ai, ci, Ay, cy, rfl, h1, h2, h3⟩ := h
  have hbe := (Below.refl w.heap.size w).alloc (Nat.le_refl _) (.cells #[.bool n.leaf, .slice Ae n.ents.length ce, .slice Ai n.kids.length ci, .slice Ay n.keys.length cy] 58)
  have b1 := hb.e
  have b2 := hb.i
  have hq : decide (n.ents.length + n.kids.length = 0) = ((n.ents.length : Int) + n.kids.length == 0) := by
    by_cases h0 : n.ents.length + n.kids.length = 0
    · rw [decide_eq_true h0]; symm; rw [beq_iff_eq]; omega
    · rw [decide_eq_false h0]; symm; rw [beq_eq_false_iff_ne]; omega
  rw [hq]
  clear hq h1 h2 h3 hb
  unfold nodeV
  generalize n.ents.length = ne at *
  generalize n.kids.length = ni at *
  have hz : (ne : Int) + ni ≤ 1000000 := by omega
  go_enter Tryz.func108, Tryz.ntmps108
  go_wp2
  go_ret
  exact ⟨rfl, hbe⟩
end Go.Proofs.YtpfplojkiloldaaGreatDoor
namespace Go.Proofs.YtpfplojkiloldaaGreatDoor
open Go.RowKit Go.Shelf
section
variable {g : Nat} {v0 v1 v2 v3 : Value} {w W W' : World}
end
end Go.Proofs.YtpfplojkiloldaaGreatDoor
namespace Rp
abbrev Run := Int × Int
def Most : Int := 4294967295
def clip (r : Run) : Run := (max r.1 0, min r.2 Most)
def Mem (l : List Run) (n : Int) : Prop := ∃ r ∈ l, r.1 ≤ n ∧ n ≤ r.2
def Canon : Int → List Run → Prop
  | _, [] => True
  | lo, r :: l => lo ≤ r.1 ∧ r.1 ≤ r.2 ∧ r.2 ≤ Most ∧ Canon (r.2 + 2) l
theorem Canon.mono {lo lo' : Int} {l : List Run} (h : Canon lo l) (hl : lo' ≤ lo) : Canon lo' l := by
  cases l with
  | nil => trivial
  | cons r l => exact ⟨by have := h.1; omega, h.2⟩
theorem mem_nil (n : Int) : ¬ Mem [] n := by rintro ⟨r, h, _⟩; cases h
theorem mem_cons {r : Run} {l : List Run} {n : Int} : Mem (r :: l) n ↔ (r.1 ≤ n ∧ n ≤ r.2) ∨ Mem l n := by
  unfold Mem
  constructor
  · rintro ⟨s, hs, h⟩
    rcases List.mem_cons.1 hs with rfl | hs
    · exact .inl h
    · exact .inr ⟨s, hs, h⟩
  · rintro (h | ⟨s, hs, h⟩)
    · exact ⟨r, List.mem_cons_self, h⟩
    · exact ⟨s, List.mem_cons_of_mem _ hs, h⟩
theorem mem_append {l m : List Run} {n : Int} : Mem (l ++ m) n ↔ Mem l n ∨ Mem m n := by
  induction l with
  | nil => simp [mem_nil]
  | cons r l ih => rw [List.cons_append, mem_cons, mem_cons, ih, or_assoc]
theorem Canon.ge {lo : Int} {l : List Run} (h : Canon lo l) {n : Int} (hm : Mem l n) : lo ≤ n := by
  induction l generalizing lo with
  | nil => exact absurd hm (mem_nil n)
  | cons r l ih =>
    rcases mem_cons.1 hm with h1 | h1
    · have := h.1; omega
    · have := ih h.2.2.2 h1; have := h.1; have := h.2.1; omega
theorem Canon.le {lo : Int} {l : List Run} (h : Canon lo l) {n : Int} (hm : Mem l n) : n ≤ Most := by
  induction l generalizing lo with
  | nil => exact absurd hm (mem_nil n)
  | cons r l ih =>
    rcases mem_cons.1 hm with h1 | h1
    · have := h.2.2.1; omega
    · exact ih h.2.2.2 h1
theorem canon_unique : ∀ (a b : List Run) (lo lo' : Int), Canon lo a → Canon lo' b → (∀ n, Mem a n ↔ Mem b n) → a = b
  | [], [], _, _, _, _, _ => rfl
  | [], s :: b, _, _, _, hb, h => absurd ((h s.1).2 (mem_cons.2 (.inl ⟨Int.le_refl _, hb.2.1⟩))) (mem_nil _)
  | r :: a, [], _, _, ha, _, h => absurd ((h r.1).1 (mem_cons.2 (.inl ⟨Int.le_refl _, ha.2.1⟩))) (mem_nil _)
  | (f, t) :: a, (f', t') :: b, lo, lo', ha, hb, h => by
    obtain ⟨_, h1, _, ha'⟩ := ha
    obtain ⟨_, h2, _, hb'⟩ := hb
    simp only at h1 h2 ha' hb'
    have e1 : f = f' := by
      have m1 := (h f).1 (mem_cons.2 (.inl ⟨Int.le_refl _, h1⟩))
      have m2 := (h f').2 (mem_cons.2 (.inl ⟨Int.le_refl _, h2⟩))
      rcases mem_cons.1 m1 with m1 | m1 <;> rcases mem_cons.1 m2 with m2 | m2
      · simp only at m1 m2; omega
      · have := ha'.ge m2; simp only at m1; omega
      · have := hb'.ge m1; simp only at m2; omega
      · have := ha'.ge m2; have := hb'.ge m1; omega
    subst e1
    have e2 : t = t' := by
      rcases Int.lt_trichotomy t t' with hlt | heq | hlt
      · have m := (h (t + 1)).2 (mem_cons.2 (.inl ⟨by simp only; omega, by simp only; omega⟩))
        rcases mem_cons.1 m with m | m
        · simp only at m; omega
        · have := ha'.ge m; omega
      · exact heq
      · have m := (h (t' + 1)).1 (mem_cons.2 (.inl ⟨by simp only; omega, by simp only; omega⟩))
        rcases mem_cons.1 m with m | m
        · simp only at m; omega
        · have := hb'.ge m; omega
    subst e2
    rw [canon_unique a b _ _ ha' hb' fun n => ?_]
    constructor
    · intro m
      have hn := ha'.ge m
      rcases mem_cons.1 ((h n).1 (mem_cons.2 (.inr m))) with m' | m'
      · simp only at m'; omega
      · exact m'
    · intro m
      have hn := hb'.ge m
      rcases mem_cons.1 ((h n).2 (mem_cons.2 (.inr m))) with m' | m'
      · simp only at m'; omega
      · exact m'
def kept (l : List Run) : List Run := (l.map clip).filter fun r => decide (r.1 ≤ r.2)
def push (out : List Run) (r : Run) : List Run :=
  match out.getLast? with
  | none => [r]
  | some y => if r.1 ≤ y.2 + 1 then out.dropLast ++ [(y.1, max y.2 r.2)] else out ++ [r]
def merged (l : List Run) : List Run := l.foldl push []
theorem canon_append {a b : List Run} {lo : Int} : Canon lo (a ++ b) ↔ Canon lo a ∧ Canon (match a.getLast? with | none => lo | some y => y.2 + 2) b := by
  induction a generalizing lo with
  | nil => simp [Canon]
  | cons r a ih =>
    rw [List.cons_append]
    show (lo ≤ r.1 ∧ r.1 ≤ r.2 ∧ r.2 ≤ Most ∧ Canon (r.2 + 2) (a ++ b)) ↔ (lo ≤ r.1 ∧ r.1 ≤ r.2 ∧ r.2 ≤ Most ∧ Canon (r.2 + 2) a) ∧ _
    rw [ih]
    have e : ((r :: a).getLast?) = some (a.getLast?.getD r) := by rw [List.getLast?_cons]
    rw [e]
    rcases h : a.getLast? with _ | y
    · simp [and_assoc]
    · simp [and_assoc]
theorem snoc_of_getLast? {l : List Run} {y : Run} (h : l.getLast? = some y) : l = l.dropLast ++ [y] := by
  have hne : l ≠ [] := by rintro rfl; simp at h
  have := List.dropLast_concat_getLast hne
  rw [List.getLast?_eq_some_getLast hne] at h
  injection h with h
  rw [h] at this
  exact this.symm
def LastLe (out : List Run) (n : Int) : Prop := ∀ y, out.getLast? = some y → y.1 ≤ n
theorem push_up {out : List Run} {r : Run} (h : Canon 0 out) (hl : LastLe out r.1) (h0 : 0 ≤ r.1) (h1 : r.1 ≤ r.2) (h2 : r.2 ≤ Most) :
    Canon 0 (push out r) ∧ LastLe (push out r) r.1 ∧ ∀ n, Mem (push out r) n ↔ Mem out n ∨ (r.1 ≤ n ∧ n ≤ r.2) := by
  unfold push
  rcases hg : out.getLast? with _ | y
  · have hn : out = [] := by simpa using hg
    subst hn
    refine ⟨⟨h0, h1, h2, trivial⟩, ?_, fun n => ?_⟩
    · intro y hy; simp at hy; subst hy; exact Int.le_refl _
    · simp [mem_cons, mem_nil]
  · have hs := snoc_of_getLast? hg
    have hly := hl y hg
    have hc : Canon 0 (out.dropLast ++ [y]) := by rw [← hs]; exact h
    obtain ⟨hd, hy1, hy2, hy3, _⟩ := canon_append.1 hc
    simp only
    split
    · rename_i hle
      refine ⟨canon_append.2 ⟨hd, hy1, ?_, ?_, trivial⟩, ?_, fun n => ?_⟩
      · simp only; omega
      · simp only; omega
      · intro z hz; simp at hz; subst hz; exact hly
      · have hm : Mem out n ↔ Mem (out.dropLast ++ [y]) n := by rw [← hs]
        rw [hm, mem_append, mem_append, mem_cons, mem_cons]
        have := mem_nil n
        simp only [this, or_false]
        constructor
        · rintro (h | h)
          · exact .inl (.inl h)
          · by_cases hh : n ≤ y.2
            · exact .inl (.inr ⟨h.1, hh⟩)
            · exact .inr ⟨by omega, by omega⟩
        · rintro ((h | h) | h)
          · exact .inl h
          · exact .inr ⟨h.1, by omega⟩
          · exact .inr ⟨by omega, by omega⟩
    · rename_i hle
      refine ⟨canon_append.2 ⟨h, ?_⟩, ?_, fun n => ?_⟩
      · rw [hg]; exact ⟨by simp only; omega, h1, h2, trivial⟩
      · intro z hz; simp at hz; subst hz; exact Int.le_refl _
      · rw [mem_append, mem_cons]; have := mem_nil n; simp only [this, or_false]
theorem merged_from (l : List Run) : ∀ (out : List Run), Canon 0 out → (∀ r ∈ l, LastLe out r.1) → l.Pairwise (fun a b => a.1 ≤ b.1) →
    (∀ r ∈ l, 0 ≤ r.1 ∧ r.1 ≤ r.2 ∧ r.2 ≤ Most) → Canon 0 (l.foldl push out) ∧ ∀ n, Mem (l.foldl push out) n ↔ Mem out n ∨ Mem l n := by
  induction l with
  | nil => intro out h _ _ _; exact ⟨h, fun n => by simp [mem_nil]⟩
  | cons r l ih =>
    intro out h hl hp hr
    obtain ⟨hp1, hp2⟩ := List.pairwise_cons.1 hp
    obtain ⟨h0, h1, h2⟩ := hr r List.mem_cons_self
    obtain ⟨c, ll, m⟩ := push_up h (hl r List.mem_cons_self) h0 h1 h2
    obtain ⟨c2, m2⟩ := ih (push out r) c (fun s hs y hy => Int.le_trans (ll y hy) (hp1 s hs)) hp2 (fun s hs => hr s (List.mem_cons_of_mem _ hs))
    refine ⟨c2, fun n => ?_⟩
    rw [List.foldl_cons, m2, m, mem_cons, or_assoc]
theorem kept_ok {l : List Run} : ∀ r ∈ kept l, 0 ≤ r.1 ∧ r.1 ≤ r.2 ∧ r.2 ≤ Most := by
  intro r hr
  unfold kept at hr
  obtain ⟨h1, h2⟩ := List.mem_filter.1 hr
  obtain ⟨s, _, rfl⟩ := List.mem_map.1 h1
  have h2 : (clip s).1 ≤ (clip s).2 := of_decide_eq_true h2
  refine ⟨?_, h2, ?_⟩ <;> simp only [clip] <;> omega
theorem mem_kept {l : List Run} {n : Int} : Mem (kept l) n ↔ Mem l n ∧ 0 ≤ n ∧ n ≤ Most := by
  constructor
  · rintro ⟨r, hr, h⟩
    have := kept_ok r hr
    unfold kept at hr
    obtain ⟨h1, h2⟩ := List.mem_filter.1 hr
    obtain ⟨s, hs, rfl⟩ := List.mem_map.1 h1
    simp only [clip] at h this
    exact ⟨⟨s, hs, by omega, by omega⟩, by omega, by omega⟩
  · rintro ⟨⟨r, hr, h⟩, h0, hm⟩
    refine ⟨clip r, List.mem_filter.2 ⟨List.mem_map.2 ⟨r, hr, rfl⟩, ?_⟩, ?_⟩
    · simp only [clip]; exact decide_eq_true (by omega)
    · simp only [clip]; omega
theorem mem_perm {a b : List Run} (h : a.Perm b) (n : Int) : Mem a n ↔ Mem b n := by
  unfold Mem
  constructor
  · rintro ⟨r, hr, x⟩; exact ⟨r, h.mem_iff.1 hr, x⟩
  · rintro ⟨r, hr, x⟩; exact ⟨r, h.mem_iff.2 hr, x⟩
theorem sorted_merged {l s : List Run} (hp : s.Perm (kept l)) (hs : s.Pairwise (fun a b => a.1 ≤ b.1)) :
    Canon 0 (merged s) ∧ ∀ n, Mem (merged s) n ↔ Mem l n ∧ 0 ≤ n ∧ n ≤ Most := by
  obtain ⟨c, m⟩ := merged_from s [] trivial (fun r _ y hy => by simp at hy) hs (fun r hr => kept_ok r (hp.mem_iff.1 hr))
  refine ⟨c, fun n => ?_⟩
  have := m n
  unfold merged
  rw [this, mem_perm hp, mem_kept]
  simp [mem_nil]
def putStep (st : List Run × Run × Bool) (y : Run) : List Run × Run × Bool :=
  if y.2 + 1 < st.2.1.1 then (st.1 ++ [y], st.2.1, st.2.2)
  else if st.2.1.2 + 1 < y.1 then (if st.2.2 then (st.1 ++ [y], st.2.1, true) else (st.1 ++ [st.2.1] ++ [y], st.2.1, true))
  else (st.1, (min st.2.1.1 y.1, max st.2.1.2 y.2), st.2.2)
def putEnd (st : List Run × Run × Bool) : List Run := if st.2.2 then st.1 else st.1 ++ [st.2.1]
def put (l : List Run) (x : Run) : List Run :=
  if (clip x).1 ≤ (clip x).2 then putEnd (l.foldl putStep ([], clip x, false)) else l
def norm (l : List Run) : List Run := l.foldl put []
theorem put_done (l : List Run) : ∀ (out : List Run) (r : Run) (lo : Int), Canon lo l → r.2 + 1 < lo →
    l.foldl putStep (out, r, true) = (out ++ l, r, true) ∨ l.foldl putStep (out, r, true) = (out ++ l, r, true) := by
  induction l with
  | nil => intro out r lo _ _; simp
  | cons y l ih =>
    intro out r lo h hr
    have e : putStep (out, r, true) y = (out ++ [y], r, true) := by
      unfold putStep
      have := h.1
      by_cases h1 : y.2 + 1 < r.1
      · simp [h1]
      · simp only [h1, if_false]; rw [if_pos (by omega)]; simp
    rw [List.foldl_cons, e]
    have := ih (out ++ [y]) r (y.2 + 2) h.2.2.2 (by have := h.1; have := h.2.1; omega)
    simpa using this
theorem put_from (l : List Run) : ∀ (out : List Run) (r : Run) (lo : Int), Canon lo l → Canon 0 out → (∀ y, out.getLast? = some y → y.2 + 2 ≤ lo ∧ y.2 + 1 < r.1) → 0 ≤ lo →
    0 ≤ r.1 → r.1 ≤ r.2 → r.2 ≤ Most →
    Canon 0 (putEnd (l.foldl putStep (out, r, false))) ∧ ∀ n, Mem (putEnd (l.foldl putStep (out, r, false))) n ↔ Mem out n ∨ Mem l n ∨ (r.1 ≤ n ∧ n ≤ r.2) := by
  induction l with
  | nil =>
    intro out r lo _ ho hl _ h0 h1 h2
    simp only [List.foldl_nil, putEnd, Bool.false_eq_true, if_false]
    refine ⟨canon_append.2 ⟨ho, ?_⟩, fun n => ?_⟩
    · rcases hg : out.getLast? with _ | y
      · exact ⟨h0, h1, h2, trivial⟩
      · exact ⟨by have := (hl y hg).2; simp only; omega, h1, h2, trivial⟩
    · rw [mem_append, mem_cons]; simp [mem_nil]
  | cons y l ih =>
    intro out r lo h ho hl hlo h0 h1 h2
    obtain ⟨g1, g2, g3, g4⟩ := h
    rw [List.foldl_cons]
    by_cases c1 : y.2 + 1 < r.1
    · have e : putStep (out, r, false) y = (out ++ [y], r, false) := by unfold putStep; simp [c1]
      rw [e]
      have hc : Canon 0 (out ++ [y]) := canon_append.2 ⟨ho, by
        rcases hg : out.getLast? with _ | z
        · exact ⟨by simp only; omega, g2, g3, trivial⟩
        · exact ⟨by have := (hl z hg).1; simp only; omega, g2, g3, trivial⟩⟩
      obtain ⟨i1, i2⟩ := ih (out ++ [y]) r (y.2 + 2) g4 hc (fun z hz => by simp at hz; subst hz; exact ⟨Int.le_refl _, c1⟩) (by omega) h0 h1 h2
      refine ⟨i1, fun n => ?_⟩
      rw [i2, mem_append, mem_cons, mem_cons]
      simp only [mem_nil, or_false, or_assoc]
    · by_cases c2 : r.2 + 1 < y.1
      · have e : putStep (out, r, false) y = (out ++ [r] ++ [y], r, true) := by unfold putStep; simp [c1, c2]
        rw [e]
        rcases put_done l (out ++ [r] ++ [y]) r (y.2 + 2) g4 (by omega) with hd | hd <;>
        · rw [hd]
          simp only [putEnd, if_true]
          refine ⟨?_, fun n => ?_⟩
          · rw [List.append_assoc, List.append_assoc]
            refine canon_append.2 ⟨ho, ?_⟩
            refine ⟨?_, h1, h2, ?_, g2, g3, ?_⟩
            · rcases hg : out.getLast? with _ | z
              · exact h0
              · have := (hl z hg).2; show z.2 + 2 ≤ r.1; omega
            · show r.2 + 2 ≤ y.1; omega
            · simpa using g4
          · simp only [mem_append, mem_cons, mem_nil, or_false]
            constructor
            · rintro (((h | h) | h) | h)
              · exact .inl h
              · exact .inr (.inr h)
              · exact .inr (.inl (.inl h))
              · exact .inr (.inl (.inr h))
            · rintro (h | (h | h) | h)
              · exact .inl (.inl (.inl h))
              · exact .inl (.inr h)
              · exact .inr h
              · exact .inl (.inl (.inr h))
      · have e : putStep (out, r, false) y = (out, (min r.1 y.1, max r.2 y.2), false) := by unfold putStep; simp [c1, c2]
        rw [e]
        obtain ⟨i1, i2⟩ := ih out (min r.1 y.1, max r.2 y.2) (y.2 + 2) g4 ho (fun z hz => by have := hl z hz; simp only; omega) (by omega) (by simp only; omega) (by simp only; omega) (by simp only; omega)
        refine ⟨i1, fun n => ?_⟩
        rw [i2, mem_cons]
        simp only
        constructor
        · rintro (h | h | h)
          · exact .inl h
          · exact .inr (.inl (.inr h))
          · by_cases hh : r.1 ≤ n ∧ n ≤ r.2
            · exact .inr (.inr hh)
            · exact .inr (.inl (.inl (by omega)))
        · rintro (h | (h | h) | h)
          · exact .inl h
          · exact .inr (.inr (by omega))
          · exact .inr (.inl h)
          · exact .inr (.inr (by omega))
theorem put_ok {l : List Run} (x : Run) (h : Canon 0 l) : Canon 0 (put l x) ∧ ∀ n, Mem (put l x) n ↔ Mem l n ∨ (x.1 ≤ n ∧ n ≤ x.2 ∧ 0 ≤ n ∧ n ≤ Most) := by
  unfold put
  by_cases hc : (clip x).1 ≤ (clip x).2
  · rw [if_pos hc]
    obtain ⟨i1, i2⟩ := put_from l [] (clip x) 0 h trivial (fun y hy => by simp at hy) (Int.le_refl _) (by simp only [clip]; omega) hc (by simp only [clip]; omega)
    refine ⟨i1, fun n => ?_⟩
    rw [i2]
    simp only [mem_nil, false_or, clip]
    constructor
    · rintro (h | h)
      · exact .inl h
      · exact .inr (by omega)
    · rintro (h | h)
      · exact .inl h
      · exact .inr (by omega)
  · rw [if_neg hc]
    refine ⟨h, fun n => ⟨.inl, ?_⟩⟩
    rintro (h | h)
    · exact h
    · simp only [clip] at hc; omega
theorem norm_from (l : List Run) : ∀ (out : List Run), Canon 0 out → Canon 0 (l.foldl put out) ∧ ∀ n, Mem (l.foldl put out) n ↔ Mem out n ∨ (Mem l n ∧ 0 ≤ n ∧ n ≤ Most) := by
  induction l with
  | nil => intro out h; exact ⟨h, fun n => by simp [mem_nil]⟩
  | cons x l ih =>
    intro out h
    obtain ⟨c, m⟩ := put_ok x h
    obtain ⟨c2, m2⟩ := ih (put out x) c
    refine ⟨c2, fun n => ?_⟩
    rw [List.foldl_cons, m2, m, mem_cons]
    constructor
    · rintro ((h | h) | h)
      · exact .inl h
      · exact .inr ⟨.inl ⟨h.1, h.2.1⟩, h.2.2⟩
      · exact .inr ⟨.inr h.1, h.2⟩
    · rintro (h | ⟨h | h, h'⟩)
      · exact .inl (.inl h)
      · exact .inl (.inr ⟨h.1, h.2, h'⟩)
      · exact .inr ⟨h, h'⟩
theorem norm_ok (l : List Run) : Canon 0 (norm l) ∧ ∀ n, Mem (norm l) n ↔ Mem l n ∧ 0 ≤ n ∧ n ≤ Most := by
  obtain ⟨c, m⟩ := norm_from l [] trivial
  exact ⟨c, fun n => by unfold norm; rw [m]; simp [mem_nil]⟩
theorem norm_eq {l s : List Run} (hp : s.Perm (kept l)) (hs : s.Pairwise (fun a b => a.1 ≤ b.1)) : merged s = norm l := by
  obtain ⟨c1, m1⟩ := sorted_merged hp hs
  obtain ⟨c2, m2⟩ := norm_ok l
  exact canon_unique _ _ _ _ c1 c2 fun n => by rw [m1, m2]
theorem putStep_len (st : List Run × Run × Bool) (y : Run) : (putStep st y).1.length ≤ st.1.length + 1 + (if st.2.2 then 0 else if (putStep st y).2.2 then 1 else 0) := by
  unfold putStep
  by_cases h1 : y.2 + 1 < st.2.1.1
  · simp [h1]
  · by_cases h2 : st.2.1.2 + 1 < y.1
    · by_cases h3 : st.2.2
      · simp [h1, h2, h3]
      · simp [h1, h2, h3]
    · simp [h1, h2]; omega
end Rp
namespace Rp
def restStep (st : List Run × Int) (r : Run) : List Run × Int := (if st.2 < r.1 then st.1 ++ [(st.2, r.1 - 1)] else st.1, r.2 + 1)
def restEnd (st : List Run × Int) : List Run := if st.2 ≤ Most then st.1 ++ [(st.2, Most)] else st.1
def rest (l : List Run) : List Run := restEnd ((norm l).foldl restStep ([], 0))
theorem rest_from (l : List Run) : ∀ (out : List Run) (from_ lo : Int), Canon lo l → from_ ≤ lo → 0 ≤ from_ → Canon 0 out → (∀ y, out.getLast? = some y → y.2 + 2 ≤ from_) → from_ ≤ Most + 1 →
    Canon 0 (restEnd (l.foldl restStep (out, from_))) ∧ ∀ n, Mem (restEnd (l.foldl restStep (out, from_))) n ↔ Mem out n ∨ (from_ ≤ n ∧ n ≤ Most ∧ ¬ Mem l n) := by
  induction l with
  | nil =>
    intro out f lo _ _ h0 ho hl hm
    by_cases hle : f ≤ Most
    · have e : restEnd ([].foldl restStep (out, f)) = out ++ [(f, Most)] := if_pos hle
      rw [e]
      refine ⟨canon_append.2 ⟨ho, ?_⟩, fun n => ?_⟩
      · rcases hg : out.getLast? with _ | y
        · exact ⟨h0, hle, Int.le_refl _, trivial⟩
        · exact ⟨hl y hg, hle, Int.le_refl _, trivial⟩
      · rw [mem_append, mem_cons]; simp [mem_nil]
    · have e : restEnd ([].foldl restStep (out, f)) = out := if_neg hle
      rw [e]
      refine ⟨ho, fun n => ⟨.inl, ?_⟩⟩
      rintro (h | h)
      · exact h
      · omega
  | cons r l ih =>
    intro out f lo h hlo h0 ho hl hm
    obtain ⟨g1, g2, g3, g4⟩ := h
    rw [List.foldl_cons]
    unfold restStep
    simp only
    by_cases hf : f < r.1
    · rw [if_pos hf]
      have hc : Canon 0 (out ++ [(f, r.1 - 1)]) := canon_append.2 ⟨ho, by
        rcases hg : out.getLast? with _ | y
        · exact ⟨h0, by simp only; omega, by simp only; omega, trivial⟩
        · exact ⟨hl y hg, by simp only; omega, by simp only; omega, trivial⟩⟩
      obtain ⟨i1, i2⟩ := ih (out ++ [(f, r.1 - 1)]) (r.2 + 1) (r.2 + 2) g4 (by omega) (by omega) hc (fun y hy => by simp at hy; subst hy; simp only; omega) (by omega)
      refine ⟨i1, fun n => ?_⟩
      show Mem (restEnd (l.foldl restStep (out ++ [(f, r.1 - 1)], r.2 + 1))) n ↔ _
      rw [i2, mem_append, mem_cons, mem_cons]
      simp only [mem_nil, or_false]
      constructor
      · rintro ((h | h) | h)
        · exact .inl h
        · refine .inr ⟨h.1, by omega, ?_⟩
          rintro (h' | h')
          · omega
          · have := g4.ge h'; omega
        · refine .inr ⟨by omega, h.2.1, ?_⟩
          rintro (h' | h')
          · omega
          · exact h.2.2 h'
      · rintro (h | ⟨h1, h2, h3⟩)
        · exact .inl (.inl h)
        · by_cases hn : n ≤ r.1 - 1
          · exact .inl (.inr ⟨h1, hn⟩)
          · refine .inr ⟨?_, h2, fun h' => h3 (.inr h')⟩
            rcases Int.lt_or_le r.2 n with h4 | h4
            · omega
            · exact absurd (.inl ⟨by omega, h4⟩) h3
    · rw [if_neg hf]
      have hl' : ∀ y, out.getLast? = some y → y.2 + 2 ≤ r.2 + 1 := fun y hy => by have := hl y hy; omega
      obtain ⟨i1, i2⟩ := ih out (r.2 + 1) (r.2 + 2) g4 (by omega) (by omega) ho hl' (by omega)
      refine ⟨i1, fun n => ?_⟩
      show Mem (restEnd (l.foldl restStep (out, r.2 + 1))) n ↔ _
      rw [i2, mem_cons]
      constructor
      · rintro (h | h)
        · exact .inl h
        · refine .inr ⟨by omega, h.2.1, ?_⟩
          rintro (h' | h')
          · omega
          · exact h.2.2 h'
      · rintro (h | ⟨h1, h2, h3⟩)
        · exact .inl h
        · refine .inr ⟨?_, h2, fun h' => h3 (.inr h')⟩
          rcases Int.lt_or_le r.2 n with h4 | h4
          · omega
          · exact absurd (.inl ⟨by omega, h4⟩) h3
theorem rest_ok (l : List Run) : Canon 0 (rest l) ∧ ∀ n, Mem (rest l) n ↔ 0 ≤ n ∧ n ≤ Most ∧ ¬ Mem l n := by
  obtain ⟨c, m⟩ := norm_ok l
  obtain ⟨i1, i2⟩ := rest_from (norm l) [] 0 0 c (Int.le_refl _) (Int.le_refl _) trivial (fun y hy => by simp at hy) (by unfold Most; omega)
  refine ⟨i1, fun n => ?_⟩
  unfold rest
  rw [i2, m]
  simp only [mem_nil, false_or]
  constructor
  · rintro ⟨h1, h2, h3⟩; exact ⟨h1, h2, fun h => h3 ⟨h, h1, h2⟩⟩
  · rintro ⟨h1, h2, h3⟩; exact ⟨h1, h2, fun h => h3 h.1⟩
theorem restStep_len (l : List Run) : ∀ st : List Run × Int, (l.foldl restStep st).1.length ≤ st.1.length + l.length := by
  induction l with
  | nil => intro st; simp
  | cons r l ih =>
    intro st
    rw [List.foldl_cons, List.length_cons]
    have h := ih (restStep st r)
    have h2 : (restStep st r).1.length ≤ st.1.length + 1 := by unfold restStep; simp only; split <;> simp
    omega
theorem rest_len (l : List Run) : (rest l).length ≤ (norm l).length + 1 := by
  have h := restStep_len (norm l) ([], 0)
  unfold rest restEnd
  split <;> simp at h ⊢ <;> omega
def union (a b : List Run) : List Run := norm (a ++ b)
theorem union_ok (a b : List Run) : Canon 0 (union a b) ∧ ∀ n, Mem (union a b) n ↔ (Mem a n ∨ Mem b n) ∧ 0 ≤ n ∧ n ≤ Most := by
  obtain ⟨c, m⟩ := norm_ok (a ++ b)
  exact ⟨c, fun n => by unfold union; rw [m, mem_append]⟩
def meet (a b : List Run) : List Run := rest (union (rest a) (rest b))
theorem meet_ok (a b : List Run) : Canon 0 (meet a b) ∧ ∀ n, Mem (meet a b) n ↔ 0 ≤ n ∧ n ≤ Most ∧ Mem a n ∧ Mem b n := by
  obtain ⟨c, m⟩ := rest_ok (union (rest a) (rest b))
  refine ⟨c, fun n => ?_⟩
  unfold meet
  rw [m, (union_ok _ _).2, (rest_ok a).2, (rest_ok b).2]
  by_cases h0 : 0 ≤ n <;> by_cases h1 : n ≤ Most <;> by_cases ha : Mem a n <;> by_cases hb : Mem b n <;> simp [h0, h1, ha, hb]
def minus (a b : List Run) : List Run := meet a (rest b)
theorem minus_ok (a b : List Run) : Canon 0 (minus a b) ∧ ∀ n, Mem (minus a b) n ↔ 0 ≤ n ∧ n ≤ Most ∧ Mem a n ∧ ¬ Mem b n := by
  obtain ⟨c, m⟩ := meet_ok a (rest b)
  refine ⟨c, fun n => ?_⟩
  unfold minus
  rw [m, (rest_ok b).2]
  constructor
  · rintro ⟨h0, h1, h2, h3⟩; exact ⟨h0, h1, h2, h3.2.2⟩
  · rintro ⟨h0, h1, h2, h3⟩; exact ⟨h0, h1, h2, h0, h1, h3⟩
theorem mem_one (x n : Int) : Mem [(x, x)] n ↔ n = x := by
  rw [mem_cons]; simp only [mem_nil, or_false]; omega
def has (l : List Run) (n : Int) : Bool := decide (0 ≤ n) && decide (n ≤ Most) && l.any fun r => decide (r.1 ≤ n) && decide (n ≤ r.2)
theorem has_iff (l : List Run) (n : Int) : has l n = true ↔ 0 ≤ n ∧ n ≤ Most ∧ Mem l n := by
  unfold has Mem
  simp only [Bool.and_eq_true, decide_eq_true_eq, List.any_eq_true, and_assoc]
def size (l : List Run) : Int := (l.map fun r => r.2 - r.1 + 1).sum
def count (l : List Run) : Int := size (norm l)
def first (l : List Run) : Option Int := (norm l).head?.map (·.1)
theorem norm_canon {l : List Run} (h : Canon 0 l) : norm l = l := by
  obtain ⟨c, m⟩ := norm_ok l
  refine canon_unique _ _ _ _ c h fun n => ?_
  rw [m]
  exact ⟨fun h => h.1, fun hm => ⟨hm, h.ge hm, h.le hm⟩⟩
end Rp
