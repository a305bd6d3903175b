/- The walks of node.Size, Fits. The walk of node.Encode. The walks of node.Child (with sort.Search at its closure), cowtree.empty. Towards the walks of node.copied, Join, Split, Swap: a boxed node's cells stand; glue of one list. Plain law of AllocApart: free, fresh and used pages are apart, and together all. Plain: a change's pages as nodes; what a tree of keys does to them. Blocks that stay; nodes and parts whose rows are no older than a block. -/
import Derived.Deep.RegionHeld3
import Derived.Test.YtpfplojkiloldaaGreatDoorP04
import Derived.Test.YtpfplojkiloldaaGreatDoorP17
import Derived.Test.YtpfplojkiloldaaGreatDoorP21
set_option maxRecDepth 100000
namespace Go.Proofs.YtpfplojkiloldaaGreatDoor
open Go.RowKit Go.Shelf
structure NB (n : Nd.Node) : Prop where
  e : n.ents.length <= 100000
  i : n.kids.length <= 100000
  k : n.keys.length <= 100000
  es : Nd.esize n.ents <= 1000000000
  ks : Nd.ksize n.keys <= 1000000000
theorem nright_any (v : Value) (n : Nd.Node) (w : World) (h : NS w v n) (hb : NB n) :
    Calls Tryz.prog 56 #[v] w fun e w' => e = .returned (.bool (Nd.right n)) /\ Below w.heap.size w w' := by
  obtain ⟨Ae, ce, Ai, ci, Ay, cy, rfl, h1, h2, h3⟩ := h
  cases hlf : n.leaf with
  | true => exact nright_leaf Ae Ai Ay ce ci cy n hlf w h1 hb.e hb.i hb.k
  | false => exact nright_inner Ae Ai Ay ce ci cy n hlf w h2 h3 hb.e hb.i hb.k
theorem ksize_take_le (l : List ByteArray) (k : Nat) : Nd.ksize (l.take k) <= Nd.ksize l := by
  have := Nd.ksize_append (l.take k) (l.drop k)
  rw [List.take_append_drop] at this
  omega
set_option maxHeartbeats 1000000 in
theorem nsize_leaf (Ae Ai Ay : Option Addr) (ce ci cy : Nat) (n : Nd.Node) (hlf : n.leaf = true) (w : World) (he : SV entE w Ae ce n.ents) (hb : NB n) :
    Calls Tryz.prog 93 #[nodeV true Ae n.ents.length ce Ai n.kids.length ci Ay n.keys.length cy] w fun e w' => e = .returned (.int .i64 (Nd.size n : Nat)) /\ Below w.heap.size w w' := by
  have hq : Nd.size n = Nd.esize n.ents := by unfold Nd.size; rw [if_pos hlf]
  rw [hq]
  have hE := hid_calls (esize_any Ae ce n.ents (w.alloc (.cells #[.bool true, .slice Ae n.ents.length ce, .slice Ai n.kids.length ci, .slice Ay n.keys.length cy] 58)) (he.ls.up ((Below.refl _ _).alloc (Nat.le_refl _) _)) hb.e hb.es)
  unfold nodeV
  generalize n.kids.length = ni at *
  generalize n.keys.length = ny at *
  generalize Nd.esize n.ents = S at *
  clear hq he
  go_enter Tryz.func93, Tryz.ntmps93
  go_wp2_with fail
  refine hE.out.mono ?_
  rintro e w1 ⟨rfl, hb1⟩
  go_wp2
  go_ret
  exact ⟨rfl, ((Below.refl _ _).alloc (Nat.le_refl _) _).trans (hb1.mono (by simp))⟩
set_option maxHeartbeats 1000000 in
theorem nsize_inner (Ae Ai Ay : Option Addr) (ce ci cy : Nat) (n : Nd.Node) (hlf : n.leaf = false) (w : World) (hy : SV keyE w Ay cy n.keys) (hb : NB n) :
    Calls Tryz.prog 93 #[nodeV false Ae n.ents.length ce Ai n.kids.length ci Ay n.keys.length cy] w fun e w' => e = .returned (.int .i64 (Nd.size n : Nat)) /\ Below w.heap.size w w' := by
  have hq : Nd.size n = 4 + Nd.ksize n.keys := by unfold Nd.size; rw [if_neg (by rw [hlf]; simp)]
  rw [hq]
  have hbe := (Below.refl w.heap.size w).alloc (Nat.le_refl _) (.cells #[.bool false, .slice Ae n.ents.length ce, .slice Ai n.kids.length ci, .slice Ay n.keys.length cy] 58)
  have hk := hy.ls.below hbe
  have hl3 := hb.k
  have hT := Lib.hid (fun k => ksize_take_le n.keys k)
  have hks := hb.ks
  unfold nodeV
  generalize hkl : n.keys = ks at *
  clear hkl hy hq hb
  generalize n.kids.length = ni at *
  generalize n.ents.length = ne at *
  obtain ⟨R, hR⟩ : ∃ R, R = Nd.ksize ks := ⟨_, rfl⟩
  rw [<- hR] at hks ⊢
  have HR := Lib.hid hR
  clear hR
  go_enter Tryz.func93, Tryz.ntmps93
  go_wp2
  go_loop [3, 5, 14] (fun s _ i => ∃ k m : Nat, k <= ks.length /\ i = .int .i64 k /\ s = .int .i64 m /\ m <= 2000000000 /\ Hid (m = 4 + Nd.ksize (ks.take k))) (fun _ _ i => ks.length - (intOf i).toNat)
  case atStart => exact ⟨0, 4, by omega, rfl, rfl, by omega, Lib.hid rfl⟩
  case round =>
    obtain ⟨k, m, hkk, rfl, rfl, hm, HM⟩ := hrel
    by_cases hlt : k < ks.length
    · obtain ⟨b1, o1, rfl, hb1, g0⟩ := hk.key hlt
      have h1 := Nd.ksize_take_succ ks k hlt
      have h2 := hT.out (k + 1)
      have hmm := HM.out
      rw [h1] at h2
      have H1 := Lib.hid h1
      obtain ⟨x, hx⟩ : ∃ x, x = ks[k] := ⟨_, rfl⟩
      rw [<- hx] at g0 h2
      have h3 : m + (5 + x.size) <= 1000000004 := by rw [HR.out] at hks; have : Nd.ksz x = 5 + x.size := rfl; omega
      have HX := Lib.hid hx
      clear h1 hx h2 hmm
      have h5 : 0 <= (x.size : Int) := by omega
      go_wp2
      go_round
      case rel =>
        refine ⟨k + 1, m + (5 + x.size), by omega, by go_num, by go_num, by omega, Lib.hid ?_⟩
        rw [H1.out, HM.out, <- HX.out]; show _ = _ + (_ + (5 + x.size)); omega
      case measure => simp [intOf]; omega
    · obtain rfl : k = ks.length := by omega
      go_wp2
      go_ret
      refine ⟨?_, hbe⟩
      have e1 : m = 4 + R := by rw [HM.out, HR.out, List.take_length]
      rw [e1]; rfl
theorem nsize_any (v : Value) (n : Nd.Node) (w : World) (h : NS w v n) (hb : NB n) :
    Calls Tryz.prog 93 #[v] w fun e w' => e = .returned (.int .i64 (Nd.size n : Nat)) /\ Below w.heap.size w w' := by
  obtain ⟨Ae, ce, Ai, ci, Ay, cy, rfl, h1, h2, h3⟩ := h
  cases hlf : n.leaf with
  | true => exact nsize_leaf Ae Ai Ay ce ci cy n hlf w h1 hb
  | false => exact nsize_inner Ae Ai Ay ce ci cy n hlf w h3 hb
set_option maxHeartbeats 1000000 in
theorem nfits_any (v : Value) (n : Nd.Node) (w : World) (h : NS w v n) (hb : NB n) :
    Calls Tryz.prog 57 #[v] w fun e w' => e = .returned (.bool (Nd.fits n)) /\ Below w.heap.size w w' := by
  obtain ⟨Ae, ce, Ai, ci, Ay, cy, rfl, h1, h2, h3⟩ := h
  have hns : NS w (nodeV n.leaf Ae n.ents.length ce Ai n.kids.length ci Ay n.keys.length cy) n := ⟨_, _, _, _, _, _, rfl, h1, h2, h3⟩
  have hbe := (Below.refl w.heap.size w).alloc (Nat.le_refl _) (.cells #[.bool n.leaf, .slice Ae n.ents.length ce, .slice Ai n.kids.length ci, .slice Ay n.keys.length cy] 58)
  have hns1 := hns.up hbe
  have hR := hid_calls (nright_any _ n _ hns1 hb)
  have HS := Lib.hid (fun W (hW : NS W (nodeV n.leaf Ae n.ents.length ce Ai n.kids.length ci Ay n.keys.length cy) n) => nsize_any _ n W hW hb)
  have hB := Blk.new w 58 #[.bool n.leaf, .slice Ae n.ents.length ce, .slice Ai n.kids.length ci, .slice Ay n.keys.length cy]
  have hq : Nd.fits n = (Nd.right n && decide (Nd.size n <= 240)) := rfl
  rw [hq]
  have hsb : Nd.size n <= 1000000004 := by unfold Nd.size; have := hb.es; have := hb.ks; split <;> omega
  have HNS := Lib.hid hns1
  clear h1 h2 h3 hns hns1 hq hb
  unfold nodeV at *
  obtain ⟨s, hs⟩ : ∃ s, s = Nd.size n := ⟨_, rfl⟩
  rw [<- hs] at HS hsb ⊢
  clear hs
  cases hr : Nd.right n with
  | false =>
    rw [hr] at hR
    clear hr
    go_enter Tryz.func57, Tryz.ntmps57
    go_wp2_with fail
    refine hR.out.mono ?_
    rintro e w1 ⟨rfl, hb1⟩
    go_wp2
    go_ret
    exact ⟨rfl, hbe.trans (hb1.mono hbe.size)⟩
  | true =>
    rw [hr] at hR
    clear hr
    go_enter Tryz.func57, Tryz.ntmps57
    go_wp2_with fail
    refine hR.out.mono ?_
    rintro e w1 ⟨rfl, hb1⟩
    have hB1 := hB.below hb1 hB.lt
    have c0 := hB1.cell 0
    have c1 := hB1.cell 1
    have c2 := hB1.cell 2
    have c3 := hB1.cell 3
    have hl1 := hB1.lt
    have hS1 := Lib.hid (HS.out w1 (HNS.out.up hb1))
    have hbb := hbe.trans (hb1.mono hbe.size)
    clear hb1
    go_wp2_with fail
    refine hS1.out.mono ?_
    rintro e w2 ⟨rfl, hb2⟩
    go_wp2
    go_ret
    exact ⟨by simp; omega, hbb.trans (hb2.mono hbb.size)⟩
end Go.Proofs.YtpfplojkiloldaaGreatDoor
namespace Go.Proofs.YtpfplojkiloldaaGreatDoor
open Go.RowKit Go.Shelf
set_option maxHeartbeats 2000000 in
theorem nencode_leaf (Ae Ai Ay : Option Addr) (ce ci cy : Nat) (n : Nd.Node) (hlf : n.leaf = true) (hfit : Nd.fits n = true) (w : World) (h : NS w (nodeV true Ae n.ents.length ce Ai n.kids.length ci Ay n.keys.length cy) n) (he : SV entE w Ae ce n.ents) (hb : NB n) :
    Calls Tryz.prog 31 #[nodeV true Ae n.ents.length ce Ai n.kids.length ci Ay n.keys.length cy] w fun e w' => e = .returned (.tuple #[.int .u8 1, .string (Nd.str (Nd.enc n)), .int .i64 0]) /\ Below w.heap.size w w' := by
  have hrt : Nd.right n = true := by unfold Nd.fits at hfit; exact (Bool.and_eq_true _ _ ▸ hfit).1
  have her : En.right n.ents = true := by
    unfold Nd.right at hrt; rw [if_pos hlf] at hrt; exact (Bool.and_eq_true _ _ ▸ hrt).1
  have hq : Nd.enc n = encS n.ents := by unfold Nd.enc encS; rw [if_pos hlf, her]; rfl
  rw [hq]
  have hbe := (Below.refl w.heap.size w).alloc (Nat.le_refl _) (.cells #[.bool true, .slice Ae n.ents.length ce, .slice Ai n.kids.length ci, .slice Ay n.keys.length cy] 58)
  have hB := Blk.new w 58 #[.bool true, .slice Ae n.ents.length ce, .slice Ai n.kids.length ci, .slice Ay n.keys.length cy]
  have hns1 := h.up hbe
  have hR := hid_calls (nright_any _ n _ hns1 hb)
  rw [hrt] at hR
  have HF := Lib.hid (fun W (hW : NS W (nodeV true Ae n.ents.length ce Ai n.kids.length ci Ay n.keys.length cy) n) => nfits_any _ n W hW hb)
  rw [hfit] at HF
  have HE := Lib.hid (fun W (hW : SV entE W Ae ce n.ents) => eencode_any Ae ce n.ents W hW.ls hb.e)
  rw [her] at HE
  have HNS := Lib.hid hns1
  have HSV := Lib.hid (he.up hbe)
  clear hrt her hfit hq hns1 he h hb hlf
  unfold nodeV at *
  generalize Nd.str (encS n.ents) = S at *
  go_enter Tryz.func31, Tryz.ntmps31
  go_wp2_with fail
  refine hR.out.mono ?_
  rintro e w1 ⟨rfl, hb1⟩
  have hB1 := hB.below hb1 hB.lt
  have c0 := hB1.cell 0
  have c1 := hB1.cell 1
  have c2 := hB1.cell 2
  have c3 := hB1.cell 3
  have hl1 := hB1.lt
  have hF1 := Lib.hid (HF.out w1 (HNS.out.up hb1))
  have hbb := hbe.trans (hb1.mono hbe.size)
  have HSV1 := Lib.hid (HSV.out.up hb1)
  clear hb1
  go_wp2_with fail
  refine hF1.out.mono ?_
  rintro e w2 ⟨rfl, hb2⟩
  have hB2 := hB1.below hb2 hB1.lt
  have d0 := hB2.cell 0
  have d1 := hB2.cell 1
  have hl2 := hB2.lt
  have hE2 := Lib.hid (HE.out w2 (HSV1.out.up hb2))
  have hbb2 := hbb.trans (hb2.mono hbb.size)
  clear c0 c1 c2 c3 hl1 hb2 hB1
  go_wp2_with fail
  refine hE2.out.mono ?_
  rintro e w3 ⟨rfl, hb3⟩
  go_wp2
  go_ret3
  exact ⟨rfl, hbb2.trans (hb3.mono hbb2.size)⟩
theorem kenc_take_succ (ks : List ByteArray) (is : List Int) (hl : ks.length = is.length) (k : Nat) (hk : k < ks.length) (hk2 : k < is.length) : Nd.kenc (ks.take (k + 1)) (is.take (k + 1)) = Nd.kenc (ks.take k) (is.take k) ++ (Nd.text ks[k] ++ Cp.be 4 (is[k]'hk2).toNat) := by
  unfold Nd.kenc
  have hz : k < (ks.zip is).length := by rw [List.length_zip]; omega
  have e : ∀ j, (ks.take j).zip (is.take j) = (ks.zip is).take j := fun j => (List.take_zipWith ..).symm
  rw [e, e, List.take_succ_eq_append_getElem hz, List.flatMap_append]
  simp [Nd.kenc1]
theorem putN_any (n : Int) (h0 : 2 <= n) (h1 : n <= 4294967295) (w : World) : Calls Tryz.prog 59 #[.int .i64 4, .int .i64 n] w fun e w' => e = .returned (.tuple #[.string (Nd.str (Cp.be 4 n.toNat)), .int .i64 0]) /\ Below w.heap.size w w' := put4_fits n w (by omega) (by omega)
set_option maxHeartbeats 400000 in
theorem nencode_inner (Ae Ai Ay : Option Addr) (ce ci cy : Nat) (n : Nd.Node) (hlf : n.leaf = false) (hfit : Nd.fits n = true) (w : World) (h : NS w (nodeV false Ae n.ents.length ce Ai n.kids.length ci Ay n.keys.length cy) n) (hi : SV intE w Ai ci n.kids) (hy : SV keyE w Ay cy n.keys) (hb : NB n) :
    Calls Tryz.prog 31 #[nodeV false Ae n.ents.length ce Ai n.kids.length ci Ay n.keys.length cy] w fun e w' => e = .returned (.tuple #[.int .u8 2, .string (Nd.str (Nd.enc n)), .int .i64 0]) /\ Below w.heap.size w w' := by
  have hrt : Nd.right n = true := by unfold Nd.fits at hfit; exact (Bool.and_eq_true _ _ ▸ hfit).1
  have hbe := (Below.refl w.heap.size w).alloc (Nat.le_refl _) (.cells #[.bool false, .slice Ae n.ents.length ce, .slice Ai n.kids.length ci, .slice Ay n.keys.length cy] 58)
  have hB := Blk.new w 58 #[.bool false, .slice Ae n.ents.length ce, .slice Ai n.kids.length ci, .slice Ay n.keys.length cy]
  have hns1 := h.up hbe
  have hR := hid_calls (nright_any _ n _ hns1 hb)
  rw [hrt] at hR
  have HF := Lib.hid (fun W (hW : NS W (nodeV false Ae n.ents.length ce Ai n.kids.length ci Ay n.keys.length cy) n) => nfits_any _ n W hW hb)
  rw [hfit] at HF
  have HNS := Lib.hid hns1
  have hi1 := hi.ls.up hbe
  have hy1 := hy.ls.up hbe
  have hlk := hb.k
  have hrt2 : Nd.right ⟨false, n.ents, n.kids, n.keys⟩ = true := by
    obtain ⟨leaf, ents, kids, keys⟩ := n
    simp only at hlf
    subst hlf
    exact hrt
  obtain ⟨he0, hkl, hok, hkf⟩ := Nd.right_inner.1 hrt2
  have hm := ((Nd.keys_iff n.keys).1 hkf).1
  obtain ⟨i0, is, hkids⟩ : ∃ i0 is, n.kids = i0 :: is := by
    cases hkk : n.kids with
    | nil => rw [hkk] at hkl; simp at hkl
    | cons i0 is => exact ⟨i0, is, rfl⟩
  focus
    have hq : Nd.enc n = Cp.be 4 i0.toNat ++ Nd.kenc n.keys is := by unfold Nd.enc; rw [if_neg (by rw [hlf]; simp), hkids]; rfl
    rw [hq]
    have hil : n.keys.length = is.length := by rw [hkids] at hkl; simpa using hkl
    have HIL := Lib.hid hil
    have HKL := Lib.hid (show n.kids.length = is.length + 1 by rw [hkids]; rfl)
    have HK0 := Lib.hid (show ∀ h, n.kids[0]'h = i0 by rw [hkids]; intro h; rfl)
    have HKS := Lib.hid (show ∀ k h h2, n.kids[k + 1]'h = is[k]'h2 by rw [hkids]; intro k h h2; rfl)
    have hi0 := hok i0 (by rw [hkids]; exact List.mem_cons_self)
    have HM := Lib.hid hm
    have HOK := Lib.hid (show ∀ x ∈ is, 2 <= x /\ x <= 4294967295 from fun x hx => hok x (by rw [hkids]; exact List.mem_cons_of_mem _ hx))
    have htake := Lib.hid (fun k hk hk2 => kenc_take_succ n.keys is hil k hk hk2)
    obtain ⟨R, hR2⟩ : ∃ R, R = Nd.str (Cp.be 4 i0.toNat ++ Nd.kenc n.keys is) := ⟨_, rfl⟩
    rw [<- hR2]
    have HRR := Lib.hid hR2
    have hP0 := Lib.hid (fun W => putN_any i0 hi0.1 hi0.2 W)
    have hz0 : (Nd.str (Cp.be 4 i0.toNat)).size <= 4 := by rw [str_size, Cp.be_length]; omega
    obtain ⟨P0, hP⟩ : ∃ P, P = Nd.str (Cp.be 4 i0.toNat) := ⟨_, rfl⟩
    rw [<- hP] at hP0 hz0
    have HP := Lib.hid hP
    clear hrt hrt2 hfit hq hns1 hi hy h hb hm hok hkf hR2 hP hkids hi0 he0 hlf hkl hil
    unfold nodeV at *
    go_enter Tryz.func31, Tryz.ntmps31
    go_wp2_with fail
    refine hR.out.mono ?_
    rintro e w1 ⟨rfl, hb1⟩
    have hB1 := hB.below hb1 hB.lt
    have c0 := hB1.cell 0
    have c1 := hB1.cell 1
    have c2 := hB1.cell 2
    have c3 := hB1.cell 3
    have hl1 := hB1.lt
    have hF1 := Lib.hid (HF.out w1 (HNS.out.up hb1))
    have hbb := hbe.trans (hb1.mono hbe.size)
    have hi2 := hi1.up hb1
    have hy2 := hy1.up hb1
    clear hb1
    go_wp2_with fail
    refine hF1.out.mono ?_
    rintro e w2 ⟨rfl, hb2⟩
    have hB2 := hB1.below hb2 hB1.lt
    have d0 := hB2.cell 0
    have d2 := hB2.cell 2
    have hl2 := hB2.lt
    have hbb2 := hbb.trans (hb2.mono hbb.size)
    have hi3 := hi2.up hb2
    have hy3 := hy2.up hb2
    have hkp : 0 < n.kids.length := by rw [HKL.out]; omega
    have g0 : ∃ b off, Ai = some ⟨b, off, none⟩ /\ b < w2.heap.size /\ w2.cell? ⟨b, off, none⟩ = some (.int .i64 i0) := by
      obtain ⟨b, off, e, hb, hc⟩ := hi3.int (k := 0) (by rw [HKL.out]; omega)
      rw [HK0.out] at hc
      exact ⟨b, off, e, hb, by simpa using hc⟩
    obtain ⟨bi, oi, hAi, hbi, g0⟩ := g0
    subst hAi
    clear c0 c1 c2 c3 hl1 hb2 hB1 hi2 hy2 hi1 hy1
    go_wp2_with fail
    refine (hP0.out _).mono ?_
    rintro e w3 ⟨rfl, hb3⟩
    have hB3 := hB2.below hb3 hB2.lt
    have e2 := hB3.cell 2
    have e3 := hB3.cell 3
    have hl3 := hB3.lt
    have hbb3 := hbb2.trans (hb3.mono hbb2.size)
    have hi4 := hi3.up hb3
    have hy4 := hy3.up hb3
    clear d0 d2 g0 hi3 hy3 hb3 hB2
    go_wp2
    go_loopw [7, 45] (fun s i wr => ∃ (k : Nat) (S : ByteArray), k <= n.keys.length /\ i = .int .i64 k /\ s = .string S /\ Hid (S = Nd.str (Cp.be 4 i0.toNat ++ Nd.kenc (n.keys.take k) (is.take k))) /\ S.size <= 4 + 100 * k /\ Below w3.heap.size w3 wr) (fun _ i _ => n.keys.length - (intOf i).toNat)
    case atStart => exact ⟨0, P0, by omega, rfl, rfl, Lib.hid (by rw [HP.out]; simp [Nd.kenc]), by omega, Below.refl _ _⟩
    case round =>
      obtain ⟨k, S, hk, rfl, rfl, HSV, hS, hbe3⟩ := hrel
      by_cases hlt : k < n.keys.length
      · obtain ⟨b2, o2, rfl, hb2, g0⟩ := (hy4.below hbe3).key hlt
        obtain ⟨b3, o3, e5, hb3, g1⟩ := (hi4.below hbe3).int (k := k + 1) (by rw [HKL.out, <- HIL.out]; omega)
        injection e5 with e5; injection e5 with e5 e6; subst e5 e6
        have hm := HM.out _ (List.getElem_mem hlt)
        have hkp1 : k + 1 < n.kids.length := by rw [HKL.out, <- HIL.out]; omega
        have hki' : k < is.length := by rw [<- HIL.out]; exact hlt
        have hki := HOK.out (is[k]'hki') (List.getElem_mem _)
        have htk := Lib.hid (htake.out k hlt hki')
        rw [HKS.out k _ hki'] at g1
        obtain ⟨x, hx⟩ : ∃ x, x = n.keys[k] := ⟨_, rfl⟩
        obtain ⟨y, hy⟩ : ∃ y, y = is[k]'hki' := ⟨_, rfl⟩
        rw [<- hx] at g0 hm
        rw [<- hy] at g1 hki
        have HX := Lib.hid hx
        have HY := Lib.hid hy
        clear hx hy
        unfold En.may at hm
        simp only [Bool.and_eq_true, decide_eq_true_eq] at hm
        obtain ⟨⟨m1, m2⟩, m3⟩ := hm
        have hSx : Hid (S ++ (Nd.str (Nd.text x) ++ Nd.str (Cp.be 4 y.toNat)) = Nd.str (Cp.be 4 i0.toNat ++ Nd.kenc (n.keys.take (k + 1)) (is.take (k + 1)))) := Lib.hid (by rw [htk.out, HSV.out, str_app, str_app, <- HX.out, <- HY.out, List.append_assoc])
        have z1 : (Nd.str (Nd.text x)).size <= 17 := by rw [str_size, Nd.text_length]; omega
        have z2 : (Nd.str (Cp.be 4 y.toNat)).size <= 4 := by rw [str_size, Cp.be_length]; omega
        have t1 := Lib.hid (fun W => textN_any x (by omega) W)
        have t2 := Lib.hid (fun W => putN_any y hki.1 hki.2 W)
        generalize Nd.str (Nd.text x) = S1 at *
        generalize Nd.str (Cp.be 4 y.toNat) = S2 at *
        have hb2' : b2 < wr.heap.size := by have := hbe3.size; omega
        have hb3' : bi < wr.heap.size := by have := hbe3.size; omega
        have hB4 := hB3.below hbe3 hB3.lt
        have hl4 := hB4.lt
        go_wp2_with fail
        refine (t1.out _).mono ?_
        rintro e w5 ⟨rfl, hb5⟩
        have hB5 := hB4.below hb5 hB4.lt
        have f2 := hB5.cell 2
        have hl5 := hB5.lt
        have g5 := (hb5.cell (p := ⟨bi, oi + (k + 1), none⟩) hb3').trans g1
        have hb5' : bi < w5.heap.size := by have := hb5.size; omega
        have hbe5 := hbe3.trans (hb5.mono hbe3.size)
        clear hb5 hB5 hB4
        go_wp2_with fail
        refine (t2.out _).mono ?_
        rintro e w6 ⟨rfl, hb6⟩
        have hbe6 := hbe5.trans (hb6.mono hbe5.size)
        clear hb6
        have hsz : (S.size : Int) + ((S1.size : Int) + S2.size) <= 1000000000 := by omega
        have hsz2 : (S1.size : Int) + S2.size <= 1000000000 := by omega
        go_wp2
        go_roundw
        case rel => exact ⟨k + 1, _, by omega, by go_num, rfl, hSx, by rw [ByteArray.size_append, ByteArray.size_append]; omega, hbe6⟩
        case measure => simp [intOf]; omega
      · obtain rfl : k = n.keys.length := by omega
        go_wp2
        go_ret3
        refine ⟨?_, hbb3.trans (hbe3.mono hbb3.size)⟩
        have hs : S = R := by rw [HSV.out, HRR.out, List.take_length, HIL.out, List.take_length]
        rw [hs]; rfl
end Go.Proofs.YtpfplojkiloldaaGreatDoor
namespace Go.Proofs.YtpfplojkiloldaaGreatDoor
open Go.RowKit Go.Shelf
theorem ksrt_lt {l : List ByteArray} (h : Nd.KSrt l) {i j : Nat} (hij : i <= j) (hj : j < l.length) {k : ByteArray} (hk : En.lt k l[i] = true) : En.lt k l[j] = true := by
  by_cases e : i = j
  · subst e; exact hk
  · exact En.lt_trans hk (List.pairwise_iff_getElem.1 h i j (by omega) hj (by omega))
theorem ksrt_ge {l : List ByteArray} (h : Nd.KSrt l) {i j : Nat} (hij : i <= j) (hj : j < l.length) {k : ByteArray} (hk : En.lt k l[j] = false) : En.lt k (l[i]'(by omega)) = false := by
  cases hc : En.lt k (l[i]'(by omega)) with
  | false => rfl
  | true => rw [ksrt_lt h hij hj hc] at hk; cases hk
theorem gtr_eq (x k : ByteArray) : (!Op.bytesLess x.toList k.toList && !x.toList == k.toList) = Op.bytesLess k.toList x.toList := by
  have e1 : Op.bytesLess x.toList k.toList = En.lt x k := rfl
  have e2 : Op.bytesLess k.toList x.toList = En.lt k x := rfl
  rw [e1, e2]
  cases h1 : En.lt x k with
  | true => rw [En.lt_not h1]; rfl
  | false =>
    rcases En.ge_of h1 with e | e
    · subst e; rw [En.lt_irrefl]; simp
    · rw [e]
      have hne : (x.toList == k.toList) = false := by
        rw [beq_eq_false_iff_ne]
        intro hl
        have : En.lt k x = En.lt k k := by unfold En.lt; rw [hl]
        rw [En.lt_irrefl, e] at this; cases this
      rw [hne]; rfl
set_option maxHeartbeats 400000 in
theorem child1_any (g1 g2 : Nat) (cs : Array Value) (Ay : Option Addr) (cy : Nat) (ks : List ByteArray) (key : ByteArray) (i : Nat) (hi : i < ks.length) (w : World) (hB : Blk w g1 58 cs) (hc3 : cs[3]? = some (.slice Ay ks.length cy)) (hK : Blk w g2 9 #[.string key]) (hl : LS keyE w w.heap.size Ay ks) :
    Calls Tryz.prog 82 #[.int .i64 i, .pointer (some ⟨g1, 0, none⟩), .pointer (some ⟨g2, 0, none⟩)] w fun e w' => e = .returned (.bool (En.lt key ks[i])) /\ Below w.heap.size w w' := by
  obtain ⟨b, off, rfl, hb, g0⟩ := hl.key hi
  have c3 := hB.cell 3
  rw [hc3] at c3
  have k0 := hK.cell 0
  have l1 := hB.lt
  have l2 := hK.lt
  generalize ks[i] = x at *
  have hq : En.lt key x = Op.bytesLess key.toList x.toList := rfl
  rw [hq]
  clear hq
  go_enter Tryz.func82, Tryz.ntmps82
  go_wp2_with fail
  go_quiet (fail)
  go_wp2
  go_ret
  exact ⟨congrArg (fun b => Ending.returned (.bool b)) (gtr_eq x key), below_drewN (Below.refl _ _) _⟩
set_option maxHeartbeats 2000000 in
theorem search_child (g1 g2 : Nat) (cs : Array Value) (Ay : Option Addr) (cy : Nat) (ks : List ByteArray) (key : ByteArray) (hs : Nd.KSrt ks) (hlen : ks.length <= 1000000) (w : World) (hB : Blk w g1 58 cs) (hc3 : cs[3]? = some (.slice Ay ks.length cy)) (hK : Blk w g2 9 #[.string key]) (hl : LS keyE w w.heap.size Ay ks) :
    Calls Tryz.prog 81 #[.int .i64 ks.length, .func (.func 82) #[] #[.pointer (some ⟨g1, 0, none⟩), .pointer (some ⟨g2, 0, none⟩)]] w fun e w' => e = .returned (.int .i64 (Nd.child ks key : Nat)) /\ Below w.heap.size w w' := by
  have HC := Lib.hid (fun i hi W hB hK hl => child1_any g1 g2 cs Ay cy ks key i hi W hB hc3 hK hl)
  have HB := Lib.hid hB
  have HK := Lib.hid hK
  have HL := Lib.hid hl
  have hl1 := hB.lt
  have hl2 := hK.lt
  have HI := Lib.hid (fun i h h1 h2 => Nd.child_iff (l := ks) hs (key := key) (i := i) h h1 h2)
  have HS := Lib.hid hs
  obtain ⟨R, hR⟩ : ∃ R, R = Nd.child ks key := ⟨_, rfl⟩
  rw [<- hR]
  have HR := Lib.hid hR
  clear hR hB hK hl hc3 hs
  go_enter Tryz.func81, Tryz.ntmps81
  go_wp2
  go_loopg [5, 6, 7] ks.length (fun g s7 s8 _ wr => ∃ lo hi : Nat, s7 = .int .i64 lo /\ s8 = .int .i64 hi /\ lo <= hi /\ hi <= ks.length /\ hi - lo <= g /\ Below w.heap.size w wr /\ Hid ((∀ j (hj : j < ks.length), j < lo -> En.lt key ks[j] = false) /\ (∀ j (hj : j < ks.length), hi <= j -> En.lt key ks[j] = true)))
  case atStart => exact ⟨0, ks.length, rfl, rfl, Nat.zero_le _, Nat.le_refl _, by omega, Below.refl _ _, Lib.hid ⟨fun j hj h => absurd h (by omega), fun j hj h => absurd h (by omega)⟩⟩
  case round =>
    obtain ⟨lo, hi, rfl, rfl, hlh, hin, hg, hbe, HJ⟩ := hrel
    by_cases hlt : lo < hi
    · have hm : (lo + hi) / 2 < ks.length := by omega
      have hc := HC.out _ hm wr (HB.out.below hbe hl1) (HK.out.below hbe hl2) (HL.out.up hbe)
      obtain ⟨q, hq⟩ : ∃ q, q = (lo + hi) / 2 := ⟨_, rfl⟩
      have hqi : ((lo : Int) + (hi : Int)) / 2 = (q : Int) := by omega
      have hq1 : lo <= q := by omega
      have hq2 : q < hi := by omega
      have hm2 : q < ks.length := by omega
      have hsl := Lib.hid (fun j (h1 : q <= j) (hj : j < ks.length) (hk : En.lt key (ks[q]'hm2) = true) => ksrt_lt HS.out h1 hj (k := key) hk)
      have hsg := Lib.hid (fun j (h1 : j <= q) (hj : q < ks.length) (hk : En.lt key ks[q] = false) => ksrt_ge HS.out h1 hj (k := key) hk)
      have hcq : Calls Tryz.prog 82 #[.int .i64 q, .pointer (some ⟨g1, 0, none⟩), .pointer (some ⟨g2, 0, none⟩)] wr fun e w' => e = .returned (.bool (En.lt key (ks[q]'hm2))) /\ Below wr.heap.size wr w' := by
        subst hq; exact hc
      clear hc hq
      cases hlx : En.lt key (ks[q]'hm2) with
      | false =>
        rw [hlx] at hcq
        have HCQ := Lib.hid hcq
        have HLX := Lib.hid hlx
        clear hlx hcq
        go_wp2_with fail
        refine Calls.mono HCQ.out ?_
        rintro e w2 ⟨rfl, b3⟩
        go_wp2
        go_roundg (hi - (q + 1))
        case measure => omega
        case rel =>
          refine ⟨q + 1, hi, by go_num, rfl, by omega, hin, Nat.le_refl _, hbe.trans (b3.mono hbe.size), Lib.hid ⟨fun j hj hj2 => ?_, HJ.out.2⟩⟩
          exact hsg.out j (by omega) hm2 HLX.out
      | true =>
        rw [hlx] at hcq
        have HCQ := Lib.hid hcq
        have HLX := Lib.hid hlx
        clear hlx hcq
        go_wp2_with fail
        refine Calls.mono HCQ.out ?_
        rintro e w2 ⟨rfl, b3⟩
        go_wp2
        go_roundg (q - lo)
        case measure => omega
        case rel =>
          refine ⟨lo, q, rfl, by go_num, by omega, by omega, Nat.le_refl _, hbe.trans (b3.mono hbe.size), Lib.hid ⟨HJ.out.1, fun j hj hj2 => ?_⟩⟩
          exact hsl.out j hj2 hj HLX.out
    · obtain rfl : lo = hi := by omega
      go_wp2
      go_ret
      refine ⟨?_, hbe⟩
      have e1 : lo = R := by rw [HR.out, HI.out lo hin HJ.out.1 HJ.out.2]
      rw [e1]; rfl
set_option maxHeartbeats 1000000 in
theorem nchild_any (v : Value) (n : Nd.Node) (key : ByteArray) (w : World) (h : NS w v n) (hb : NB n) (hs : Nd.KSrt n.keys) :
    Calls Tryz.prog 51 #[v, .string key] w fun e w' => e = .returned (.int .i64 (Nd.child n.keys key : Nat)) /\ Below w.heap.size w w' := by
  obtain ⟨Ae, ce, Ai, ci, Ay, cy, rfl, h1, h2, h3⟩ := h
  have hb1 := (Below.refl w.heap.size w).alloc (Nat.le_refl _) (.cells #[.bool n.leaf, .slice Ae n.ents.length ce, .slice Ai n.kids.length ci, .slice Ay n.keys.length cy] 58)
  have hbe := hb1.alloc hb1.size (.cells #[.string key] 9)
  have hB := (Blk.new w 58 #[.bool n.leaf, .slice Ae n.ents.length ce, .slice Ai n.kids.length ci, .slice Ay n.keys.length cy]).alloc (.cells #[.string key] 9)
  have hK := Blk.new (w.alloc (.cells #[.bool n.leaf, .slice Ae n.ents.length ce, .slice Ai n.kids.length ci, .slice Ay n.keys.length cy] 58)) 9 #[.string key]
  have hS := hid_calls (search_child w.heap.size (w.heap.size + 1) _ Ay cy n.keys key hs (by have := hb.k; omega) _ hB rfl (by simpa using hK) (h3.ls.up hbe))
  have hk := hb.k
  generalize Nd.child n.keys key = R at *
  clear h1 h2 h3 hB hK hs hb hb1
  unfold nodeV
  go_enter Tryz.func51, Tryz.ntmps51
  go_wp2_with fail
  refine hS.out.mono ?_
  rintro e w1 ⟨rfl, hb2⟩
  go_wp2
  go_ret
  exact ⟨rfl, hbe.trans (hb2.mono hbe.size)⟩
theorem nempty_any (v : Value) (n : Nd.Node) (w : World) (h : NS w v n) (hb : NB n) :
    Calls Tryz.prog 108 #[v] w fun e w' => e = .returned (.bool (decide (n.ents.length + n.kids.length = 0))) /\ Below w.heap.size w w' := by
  obtain ⟨Ae, ce, Ai, ci, Ay, cy, rfl, h1, h2, h3⟩ := h
  have hbe := (Below.refl w.heap.size w).alloc (Nat.le_refl _) (.cells #[.bool n.leaf, .slice Ae n.ents.length ce, .slice Ai n.kids.length ci, .slice Ay n.keys.length cy] 58)
  have b1 := hb.e
  have b2 := hb.i
  have hq : decide (n.ents.length + n.kids.length = 0) = ((n.ents.length : Int) + n.kids.length == 0) := by
    by_cases h0 : n.ents.length + n.kids.length = 0
    · rw [decide_eq_true h0]; symm; rw [beq_iff_eq]; omega
    · rw [decide_eq_false h0]; symm; rw [beq_eq_false_iff_ne]; omega
  rw [hq]
  clear hq h1 h2 h3 hb
  unfold nodeV
  generalize n.ents.length = ne at *
  generalize n.kids.length = ni at *
  have hz : (ne : Int) + ni <= 1000000 := by omega
  go_enter Tryz.func108, Tryz.ntmps108
  go_wp2
  go_ret
  exact ⟨rfl, hbe⟩
end Go.Proofs.YtpfplojkiloldaaGreatDoor
namespace Go.Proofs.YtpfplojkiloldaaGreatDoor
open Go.RowKit Go.Shelf
section
variable {g : Nat} {v0 v1 v2 v3 : Value} {w W W' : World}
end
end Go.Proofs.YtpfplojkiloldaaGreatDoor
namespace Rp
def nums (l : List Run) : List Int := l.flatMap fun r => (List.range (r.2 - r.1 + 1).toNat).map fun i : Nat => r.1 + (i : Int)
theorem nums_cons (r : Run) (l : List Run) : nums (r :: l) = ((List.range (r.2 - r.1 + 1).toNat).map fun i : Nat => r.1 + (i : Int)) ++ nums l := by
  unfold nums; rw [List.flatMap_cons]
theorem mem_run {r : Run} {x : Int} : x ∈ ((List.range (r.2 - r.1 + 1).toNat).map fun i : Nat => r.1 + (i : Int)) ↔ r.1 <= x /\ x <= r.2 := by
  rw [List.mem_map]
  constructor
  · rintro ⟨i, hi, rfl⟩
    rw [List.mem_range] at hi; omega
  · rintro ⟨h1, h2⟩
    exact ⟨(x - r.1).toNat, by rw [List.mem_range]; omega, by omega⟩
theorem mem_nums {l : List Run} {x : Int} : x ∈ nums l ↔ Mem l x := by
  induction l with
  | nil => simp [nums, mem_nil]
  | cons r l ih => rw [nums_cons, List.mem_append, mem_run, ih, mem_cons]
theorem range_nodup (a : Int) (n : Nat) : ((List.range n).map fun i : Nat => a + (i : Int)).Nodup := by
  unfold List.Nodup
  rw [List.pairwise_map]
  exact List.Pairwise.imp (fun h e => h (by omega)) (List.nodup_range (n := n))
def least (l : List Run) : Option Int := (nums (norm l)).head?
theorem mem_two {p x : Int} : Mem [(2, p - 1)] x ↔ 2 <= x /\ x < p := by
  rw [mem_cons]; simp only [mem_nil, or_false]; omega
structure Ap (room : Int) (fr used : List Run) (mine : List Int) (p : Int) : Prop where
  pg : 2 <= p /\ p <= room /\ room <= 100000
  cf : Canon 0 fr
  cu : Canon 0 used
  hf : ∀ x, Mem fr x -> 2 <= x /\ x < p
  hu : ∀ x, Mem used x -> 2 <= x /\ x < p
  hm : ∀ x, x ∈ mine -> 2 <= x /\ x < p
  all : ∀ x, 2 <= x -> x < p -> Mem fr x \/ Mem used x \/ x ∈ mine
  fu : ∀ x, Mem fr x -> ¬ Mem used x
  fm : ∀ x, Mem fr x -> x ∉ mine
  um : ∀ x, Mem used x -> x ∉ mine
  nd : mine.Nodup
section
variable {room p : Int} {fr used : List Run} {mine : List Int}
theorem Ap.start (l : List Run) (h : 2 <= p /\ p <= room /\ room <= 100000) : Ap room (meet l [(2, p - 1)]) (minus [(2, p - 1)] l) [] p := by
  obtain ⟨c1, m1⟩ := meet_ok l [(2, p - 1)]
  obtain ⟨c2, m2⟩ := minus_ok [(2, p - 1)] l
  refine ⟨h, c1, c2, fun x hx => mem_two.1 ((m1 x).1 hx).2.2.2, fun x hx => mem_two.1 ((m2 x).1 hx).2.2.1, fun x hx => absurd hx List.not_mem_nil, fun x h1 h2 => ?_, fun x hx hy => ((m2 x).1 hy).2.2.2 ((m1 x).1 hx).2.2.1, fun x _ hx => absurd hx List.not_mem_nil, fun x _ hx => absurd hx List.not_mem_nil, List.nodup_nil⟩
  have h3 : 0 <= x /\ x <= Most := by unfold Most; omega
  by_cases hl : Mem l x
  · exact .inl ((m1 x).2 ⟨h3.1, h3.2, hl, mem_two.2 ⟨h1, h2⟩⟩)
  · exact .inr (.inl ((m2 x).2 ⟨h3.1, h3.2, mem_two.2 ⟨h1, h2⟩, hl⟩))
theorem has_used {used : List Run} {x : Int} (hx : ¬ Mem used x) : has used x = false := by
  cases hh : has used x with
  | false => rfl
  | true => exact absurd ((has_iff _ _).1 hh).2.2 hx
theorem least_mem {l : List Run} (hc : Canon 0 l) {id : Int} (h : least l = some id) : Mem l id := by
  unfold least at h
  rw [norm_canon hc] at h
  exact mem_nums.1 (List.mem_of_head? h)
theorem least_none {l : List Run} (hc : Canon 0 l) (h : least l = none) (x : Int) : ¬ Mem l x := by
  unfold least at h
  rw [norm_canon hc, List.head?_eq_none_iff] at h
  intro hm
  have := mem_nums.2 hm
  rw [h] at this; cases this
theorem Ap.free (h : Ap room fr used mine p) {id : Int} (hid : least fr = some id) :
    id ∉ mine /\ has used id = false /\ 2 <= id /\ id < p /\ Ap room (minus fr [(id, id)]) used (mine ++ [id]) p := by
  have hm := least_mem h.cf hid
  have hr := h.hf id hm
  obtain ⟨c, m⟩ := minus_ok fr [(id, id)]
  refine ⟨h.fm id hm, has_used (h.fu id hm), hr.1, hr.2, h.pg, c, h.cu, fun x hx => h.hf x ((m x).1 hx).2.2.1, h.hu, fun x hx => ?_, fun x h1 h2 => ?_, fun x hx => h.fu x ((m x).1 hx).2.2.1, fun x hx hx2 => ?_, fun x hx hx2 => ?_, ?_⟩
  · rcases List.mem_append.1 hx with hx | hx
    · exact h.hm x hx
    · simp at hx; subst hx; exact hr
  · have h3 := h.pg
    rcases h.all x h1 h2 with h4 | h4 | h4
    · by_cases e : x = id
      · subst e; exact .inr (.inr (by simp))
      · exact .inl ((m x).2 ⟨by omega, by unfold Most; omega, h4, fun h5 => e ((mem_one id x).1 h5)⟩)
    · exact .inr (.inl h4)
    · exact .inr (.inr (List.mem_append_left _ h4))
  · obtain ⟨_, _, h4, h5⟩ := (m x).1 hx
    rcases List.mem_append.1 hx2 with h6 | h6
    · exact h.fm x h4 h6
    · simp at h6; exact h5 ((mem_one id x).2 h6)
  · rcases List.mem_append.1 hx2 with h6 | h6
    · exact h.um x hx h6
    · simp at h6; subst h6; exact h.fu x hm hx
  · rw [List.nodup_append]
    exact ⟨h.nd, by simp, fun a ha b hb e => by simp at hb; subst hb; subst e; exact h.fm _ hm ha⟩
theorem Ap.fresh (h : Ap room fr used mine p) (hp : p < room) :
    p ∉ mine /\ has used p = false /\ Ap room fr used (mine ++ [p]) (p + 1) := by
  have hpm : p ∉ mine := fun hx => by have := h.hm p hx; omega
  have hpu : ¬ Mem used p := fun hx => by have := h.hu p hx; omega
  have hpf : ¬ Mem fr p := fun hx => by have := h.hf p hx; omega
  have h0 := h.pg
  refine ⟨hpm, has_used hpu, by omega, h.cf, h.cu, fun x hx => by have := h.hf x hx; omega, fun x hx => by have := h.hu x hx; omega, fun x hx => ?_, fun x h1 h2 => ?_, h.fu, fun x hx hx2 => ?_, fun x hx hx2 => ?_, ?_⟩
  · rcases List.mem_append.1 hx with hx | hx
    · have := h.hm x hx; omega
    · simp at hx; omega
  · by_cases e : x = p
    · subst e; exact .inr (.inr (by simp))
    · rcases h.all x h1 (by omega) with h4 | h4 | h4
      · exact .inl h4
      · exact .inr (.inl h4)
      · exact .inr (.inr (List.mem_append_left _ h4))
  · rcases List.mem_append.1 hx2 with h6 | h6
    · exact h.fm x hx h6
    · simp at h6; subst h6; exact hpf hx
  · rcases List.mem_append.1 hx2 with h6 | h6
    · exact h.um x hx h6
    · simp at h6; subst h6; exact hpu hx
  · rw [List.nodup_append]
    exact ⟨h.nd, by simp, fun a ha b hb e => by simp at hb; subst hb; subst e; exact hpm ha⟩
theorem Ap.dropped (h : Ap room fr used mine p) {id : Int} (hid : id ∈ mine) : Ap room (union fr [(id, id)]) used (mine.filter fun x => x != id) p := by
  obtain ⟨c, m⟩ := union_ok fr [(id, id)]
  have hr := h.hm id hid
  have h0 := h.pg
  have hx2 : ∀ x, x ∈ (mine.filter fun x => x != id) ↔ x ∈ mine /\ x ≠ id := fun x => by rw [List.mem_filter]; simp
  refine ⟨h.pg, c, h.cu, fun x hx => ?_, h.hu, fun x hx => h.hm x ((hx2 x).1 hx).1, fun x h1 h2 => ?_, fun x hx hu => ?_, fun x hx hm => ?_, fun x hx hm => h.um x hx ((hx2 x).1 hm).1, h.nd.sublist List.filter_sublist⟩
  · rcases ((m x).1 hx).1 with h4 | h4
    · exact h.hf x h4
    · rw [(mem_one id x).1 h4]; exact hr
  · have hb : 0 <= x /\ x <= Most := by unfold Most; omega
    rcases h.all x h1 h2 with h4 | h4 | h4
    · exact .inl ((m x).2 ⟨.inl h4, hb⟩)
    · exact .inr (.inl h4)
    · by_cases e : x = id
      · exact .inl ((m x).2 ⟨.inr ((mem_one id x).2 e), hb⟩)
      · exact .inr (.inr ((hx2 x).2 ⟨h4, e⟩))
  · rcases ((m x).1 hx).1 with h4 | h4
    · exact h.fu x h4 hu
    · rw [(mem_one id x).1 h4] at hu; exact h.um id hu hid
  · obtain ⟨h5, h6⟩ := (hx2 x).1 hm
    rcases ((m x).1 hx).1 with h4 | h4
    · exact h.fm x h4 h5
    · exact h6 ((mem_one id x).1 h4)
theorem filter_out {l : List Int} {id : Int} (h : id ∉ l) : (l.filter fun x => x != id) = l := by
  rw [List.filter_eq_self]
  intro a ha
  simp only [bne_iff_ne, ne_eq]
  rintro rfl
  exact h ha
end
end Rp
namespace Tp
open Nd
abbrev Run := Rp.Run
structure Pst where
  free : List Run
  pages : Int
  mine : List Int
  nd : Int -> Option Node
def Pst.put (σ : Pst) (id : Int) (n : Node) : Pst := { σ with nd := fun j => if j = id then some n else σ.nd j }
def Pst.view (disk : Int -> Option Node) (σ : Pst) (id : Int) : Option Node :=
  if id ∈ σ.mine then σ.nd id else if 2 <= id /\ id < σ.pages /\ Rp.has σ.free id = false then disk id else none
def allocV (free : List Run) (pages room : Int) : Option (Int × List Run × Int) :=
  match Rp.least free with
  | some id => some (id, Rp.minus free [(id, id)], pages)
  | none => if room <= pages then none else some (pages, free, pages + 1)
def pAlloc (room : Int) (σ : Pst) : Option (Int × Pst) := match allocV σ.free σ.pages room with
  | none => none
  | some (id, fr, p) => some (id, ⟨fr, p, σ.mine ++ [id], fun j => if j = id then none else σ.nd j⟩)
def pDrop (σ : Pst) (id : Int) : Pst := { σ with free := if id ∈ σ.mine then Rp.union σ.free [(id, id)] else σ.free, mine := σ.mine.filter fun x => x != id }
def pSave (room : Int) (σ : Pst) (id : Int) (n : Node) : Except Int Int × Pst :=
  if fits n = false then (.error 3, σ)
  else if id ∈ σ.mine then (.ok id, σ.put id n)
  else match pAlloc room σ with
    | none => (.error 2, σ)
    | some (id', σ') => (.ok id', σ'.put id' n)
abbrev Part := List Int × List En.Str
def cut (n : Node) : Option (Node × En.Str × Node) := if 240 < size n then split n else none
def pStore (room : Int) : Nat -> Pst -> Int -> Node -> Except Int Part × Pst
  | 0, σ, _, _ => (.error 3, σ)
  | f + 1, σ, id, n =>
    if n.ents.length + n.kids.length = 0 then (.ok ([], []), pDrop σ id)
    else match cut n with
      | some (a, key, b) => match pStore room f σ id a with
        | (.error e, σ1) => (.error e, σ1)
        | (.ok one, σ1) => match pStore room f σ1 0 b with
          | (.error e, σ2) => (.error e, σ2)
          | (.ok two, σ2) => (.ok (one.1 ++ two.1, one.2 ++ [key] ++ two.2), σ2)
      | none => match pSave room σ id n with
        | (.error e, σ1) => (.error e, σ1)
        | (.ok p, σ1) => (.ok ([p], []), σ1)
def fuelOf (n : Node) : Nat := n.ents.length + n.kids.length + 1
def sib (n : Node) (i : Nat) : Nat := if i + 1 = n.kids.length then i - 1 else i
def pFill (room : Int) (disk : Int -> Option Node) (σ : Pst) (n : Node) (i d : Nat) : Except Int Node × Pst :=
  if 24 <= d then (.error 3, σ) else
  match σ.view disk (n.kids.getD i 0) with
  | none => (.error 3, σ)
  | some kid => if 80 <= size kid then (.ok n, σ) else
    match σ.view disk (n.kids.getD (sib n i) 0) with
    | none => (.error 3, σ)
    | some a => match σ.view disk (n.kids.getD (sib n i + 1) 0) with
      | none => (.error 3, σ)
      | some b => if (a.leaf != b.leaf) = true \/ fits (join a (n.keys.getD (sib n i) ⟨#[]⟩) b) = false then (.ok n, σ)
        else match pSave room σ (n.kids.getD (sib n i) 0) (join a (n.keys.getD (sib n i) ⟨#[]⟩) b) with
          | (.error e, σ1) => (.error e, σ1)
          | (.ok page, σ1) => (.ok (swap n (sib n i) (sib n i + 2) [page] []), pDrop σ1 (n.kids.getD (sib n i + 1) 0))
def pFillIf (room : Int) (disk : Int -> Option Node) (p : Part) (σ : Pst) (n : Node) (i d : Nat) : Except Int Node × Pst :=
  if p.1.length = 1 /\ 1 < n.kids.length then pFill room disk σ n i d else (.ok n, σ)
def pChange (room : Int) (disk : Int -> Option Node) (g : List En.Ent -> List En.Ent) (key : En.Str) : Nat -> Pst -> Int -> Except Int Part × Pst
  | 0, σ, _ => (.error 3, σ)
  | f + 1, σ, id => match σ.view disk id with
    | none => (.error 3, σ)
    | some n => if n.leaf then pStore room (fuelOf (mkLeaf (g n.ents))) σ id (mkLeaf (g n.ents))
      else match pChange room disk g key f σ (n.kids.getD (child n.keys key) 0) with
        | (.error e, σ1) => (.error e, σ1)
        | (.ok p, σ1) => match pFillIf room disk p σ1 (swap n (child n.keys key) (child n.keys key + 1) p.1 p.2) (child n.keys key) (24 - f) with
          | (.error e, σ2) => (.error e, σ2)
          | (.ok n2, σ2) => pStore room (fuelOf n2) σ2 id n2
def pShrink (disk : Int -> Option Node) : Nat -> Pst -> Int -> Except Int Int × Pst
  | 0, σ, _ => (.error 3, σ)
  | f + 1, σ, id => match σ.view disk id with
    | none => (.error 3, σ)
    | some n => if n.leaf = true \/ 1 < n.kids.length then (.ok id, σ) else pShrink disk f (pDrop σ id) (n.kids.getD 0 0)
def pGrow (room : Int) (disk : Int -> Option Node) : Nat -> Pst -> Part -> Except Int Int × Pst
  | 0, σ, _ => (.error 3, σ)
  | f + 1, σ, p =>
    if 1 < p.1.length then match pStore room (p.1.length + 1) σ 0 (mkInner p.1 p.2) with
      | (.error e, σ1) => (.error e, σ1)
      | (.ok q, σ1) => pGrow room disk f σ1 q
    else match p.1 with
      | [] => (.ok 0, σ)
      | id :: _ => pShrink disk 24 σ id
def pFirst (room : Int) (disk : Int -> Option Node) (g : List En.Ent -> List En.Ent) (key : En.Str) (σ : Pst) (root : Int) : Except Int Part × Pst :=
  if root = 0 then pStore room (fuelOf (mkLeaf (g []))) σ 0 (mkLeaf (g [])) else pChange room disk g key 24 σ root
def pUpdate (room : Int) (disk : Int -> Option Node) (g : List En.Ent -> List En.Ent) (key : En.Str) (σ : Pst) (root : Int) : Except Int Int × Pst :=
  match pFirst room disk g key σ root with
  | (.error e, σ1) => (.error e, σ1)
  | (.ok p, σ1) => pGrow room disk (p.1.length + 1) σ1 p
def pFind (disk : Int -> Option Node) (σ : Pst) (key : En.Str) : Nat -> Int -> Except Int (Option En.Str)
  | 0, id => if id = 0 then .ok none else .error 3
  | f + 1, id => if id = 0 then .ok none else match σ.view disk id with
    | none => .error 3
    | some n => if n.leaf then .ok (En.get n.ents key) else pFind disk σ key f (n.kids.getD (child n.keys key) 0)
def goKids {S : Type} (vis : Int -> S -> S × Except Int Bool) : List Int -> S -> S × Except Int Bool
  | [], s => (s, .ok true)
  | k :: r, s => match vis k s with
    | (s', .ok true) => goKids vis r s'
    | (s', x) => (s', x)
def place (l : List En.Ent) (key : En.Str) : Nat := (l.takeWhile fun x => En.lt x.1 key).length
def pVisit {S : Type} (disk : Int -> Option Node) (σ : Pst) (frm : En.Str) (step : S -> List En.Ent -> S × Bool) : Nat -> Int -> S -> S × Except Int Bool
  | 0, _, s => (s, .error 3)
  | f + 1, id, s => match σ.view disk id with
    | none => (s, .error 3)
    | some n => if n.leaf then ((step s (n.ents.drop (place n.ents frm))).1, .ok (step s (n.ents.drop (place n.ents frm))).2)
      else goKids (pVisit disk σ frm step f) (n.kids.drop (child n.keys frm)) s
def pWalkKids (wk : List (Int × Nat × Node) -> Int -> List (Int × Nat × Node) × Int) : List Int -> List (Int × Nat × Node) -> List (Int × Nat × Node) × Int
  | [], l => (l, 0)
  | k :: r, l => match wk l k with
    | (l', 0) => pWalkKids wk r l'
    | (l', e) => (l', e)
def pWalk (disk : Int -> Option Node) (σ : Pst) : Nat -> List (Int × Nat × Node) -> Int -> List (Int × Nat × Node) × Int
  | 0, l, _ => (l, 3)
  | f + 1, l, id => match σ.view disk id with
    | none => (l, 3)
    | some n => pWalkKids (pWalk disk σ f) n.kids (l ++ [(id, 24 - (f + 1), n)])
end Tp
namespace Go.Proofs.YtpfplojkiloldaaGreatDoor
open Go.RowKit Go.Shelf
structure Fr (S : Nat -> Prop) (w w' : World) : Prop where
  os : w'.os = w.os
  tape : w'.tape = w.tape
  output : w'.output = w.output
  size : w.heap.size <= w'.heap.size
  block : ∀ k, k < w.heap.size -> ¬ S k -> w'.heap[k]? = w.heap[k]?
section
variable {S S' : Nat -> Prop} {w w' w'' : World}
theorem Fr.refl (w : World) : Fr S w w := ⟨rfl, rfl, rfl, Nat.le_refl _, fun _ _ _ => rfl⟩
theorem Fr.of_below (h : Below w.heap.size w w') : Fr S w w' := ⟨h.os, h.tape, h.output, h.size, fun k hk _ => h.block k hk⟩
theorem Fr.trans (h : Fr S w w') (h' : Fr S w' w'') : Fr S w w'' :=
  ⟨h'.os.trans h.os, h'.tape.trans h.tape, h'.output.trans h.output, Nat.le_trans h.size h'.size, fun k hk a => (h'.block k (Nat.lt_of_lt_of_le hk h.size) a).trans (h.block k hk a)⟩
theorem Fr.then_ (h : Fr S w w') (h' : Below w'.heap.size w' w'') : Fr S w w'' := h.trans (.of_below h')
theorem Fr.more (h : Fr S w w') (hS : ∀ k, S k -> S' k) : Fr S' w w' := ⟨h.os, h.tape, h.output, h.size, fun k hk a => h.block k hk (fun b => a (hS k b))⟩
theorem Fr.blk (h : Fr S w w') {g : Nat} {ty : TypeId} {cs : Array Value} (hB : Blk w g ty cs) (hg : ¬ S g) : Blk w' g ty cs := (h.block g hB.lt hg).trans hB
theorem Fr.set_ {g i : Nat} (hg : S g) (v : Value) : Fr S w (w.setCell ⟨g, i, none⟩ v) := by
  have h := only_setCell (World.grownBy.refl w (some g)) (p := ⟨g, i, none⟩) (.inl rfl) v
  exact ⟨h.os, h.tape, h.output, h.size, fun k hk a => h.block k hk (fun e => by injection e with e; subst e; exact a hg)⟩
theorem Fr.low {B : Nat} (h : Fr S w w') (hB : B <= w.heap.size) (hS : ∀ k, S k -> B <= k) : Below B w w' := ⟨h.os, h.tape, h.output, h.size, fun k hk => h.block k (by omega) (fun a => by have := hS k a; omega)⟩
theorem LO.fr {α : Type} {E : Enc α} {ty : TypeId} {base : Nat} {v : Value} {l : List α} (h : LO E ty w base v l) (hf : Fr S w w') (hS : ∀ k, S k -> k < base) : LO E ty w' base v l := by
  obtain ⟨h1, h2⟩ := h
  refine ⟨h1, ?_⟩
  rcases h2 with h2 | ⟨g, cap, cur, e1, e2, e3, e4⟩
  · exact .inl h2
  · exact .inr ⟨g, cap, cur, e1, e2, (hf.block g (Array.getElem?_eq_some_iff.1 e3).1 (fun a => by have := hS g a; omega)).trans e3, e4⟩
theorem LO.fr' {α : Type} {E : Enc α} {ty : TypeId} {base : Nat} {v : Value} {l : List α} (h : LO E ty w base v l) (hf : Fr S w w') (hS : ∀ k, S k -> k < base) : LO E ty w' base v l := h.fr hf hS
end
def NF (lo : Nat) (w : World) (v : Value) (n : Nd.Node) : Prop := ∃ Ae ce Ai ci Ay cy, v = nodeV n.leaf Ae n.ents.length ce Ai n.kids.length ci Ay n.keys.length cy /\ LO entE 38 w lo (.slice Ae n.ents.length ce) n.ents /\ LO intE 3 w lo (.slice Ai n.kids.length ci) n.kids /\ LO keyE 9 w lo (.slice Ay n.keys.length cy) n.keys
section
variable {S : Nat -> Prop} {w w' : World} {lo lo' : Nat} {v : Value} {n : Nd.Node}
theorem NF.ns (h : NF lo w v n) : NS w v n := by
  obtain ⟨Ae, ce, Ai, ci, Ay, cy, e, h1, h2, h3⟩ := h
  exact ⟨Ae, ce, Ai, ci, Ay, cy, e, h1.sv, h2.sv, h3.sv⟩
theorem NF.below (h : NF lo w v n) (hb : Below w.heap.size w w') : NF lo w' v n := by
  obtain ⟨Ae, ce, Ai, ci, Ay, cy, e, h1, h2, h3⟩ := h
  exact ⟨Ae, ce, Ai, ci, Ay, cy, e, h1.below hb, h2.below hb, h3.below hb⟩
theorem NF.lower (h : NF lo w v n) (hl : lo' <= lo) : NF lo' w v n := by
  obtain ⟨Ae, ce, Ai, ci, Ay, cy, e, h1, h2, h3⟩ := h
  exact ⟨Ae, ce, Ai, ci, Ay, cy, e, h1.lower hl, h2.lower hl, h3.lower hl⟩
theorem NF.fr (h : NF lo w v n) (hf : Fr S w w') (hS : ∀ k, S k -> k < lo) : NF lo w' v n := by
  obtain ⟨Ae, ce, Ai, ci, Ay, cy, e, h1, h2, h3⟩ := h
  exact ⟨Ae, ce, Ai, ci, Ay, cy, e, h1.fr hf hS, h2.fr hf hS, h3.fr hf hS⟩
end
def prtV (Ai : Option Addr) (ni ci : Nat) (Ay : Option Addr) (ny cy : Nat) : Value := .agg #[.slice Ai ni ci, .slice Ay ny cy]
def PF (lo : Nat) (w : World) (v : Value) (p : Tp.Part) : Prop := ∃ Ai ci Ay cy, v = prtV Ai p.1.length ci Ay p.2.length cy /\ LO intE 3 w lo (.slice Ai p.1.length ci) p.1 /\ LO keyE 9 w lo (.slice Ay p.2.length cy) p.2
section
variable {S : Nat -> Prop} {w w' : World} {lo lo' : Nat} {v : Value} {p : Tp.Part}
theorem PF.below (h : PF lo w v p) (hb : Below w.heap.size w w') : PF lo w' v p := by
  obtain ⟨Ai, ci, Ay, cy, e, h2, h3⟩ := h
  exact ⟨Ai, ci, Ay, cy, e, h2.below hb, h3.below hb⟩
theorem PF.fr (h : PF lo w v p) (hf : Fr S w w') (hS : ∀ k, S k -> k < lo) : PF lo w' v p := by
  obtain ⟨Ai, ci, Ay, cy, e, h2, h3⟩ := h
  exact ⟨Ai, ci, Ay, cy, e, h2.fr hf hS, h3.fr hf hS⟩
end
end Go.Proofs.YtpfplojkiloldaaGreatDoor
