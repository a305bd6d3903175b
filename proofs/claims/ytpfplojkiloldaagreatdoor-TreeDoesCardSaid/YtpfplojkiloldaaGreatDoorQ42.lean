/- Two laws' trees beside one another: what is done to one leaves the other as it is. The walks of rootstockref11.Size, rootstockref12.Right, Size: of right nodes. The walk of rootstockref13's part, over the pages of a tree. -/
import Derived.BigQuiet
import Derived.BigRegion
import Derived.Deep.RegionLaw
import Derived.Deep.CutBlock
import Derived.Deep.CutRange
import Derived.Test.YtpfplojkiloldaaGreatDoorQ08
import Derived.Test.YtpfplojkiloldaaGreatDoorQ41
namespace Go.Proofs.YtpfplojkiloldaaGreatDoor
open Go.RowKit Go.Shelf
theorem Txn.fr2 {w w' : World} {t m f n k : Nat} {free : List Run} {pages : Int} {D : DataW Value} {S' : Nat → Prop} (h : Txn w t m f n free pages k D) (hf : Fr S' w w') (ht : ¬ S' t) (hm : ¬ S' m) (hfar : ∀ b, S' b → ∀ o, w.heap[b]? = some o → (∀ cs, o ≠ .cells cs 120) ∧ (∀ cs, o ≠ .cells cs 99) ∧ (∀ cs, o ≠ .cells cs 110)) : Txn w' t m f n free pages k D := by
  have key : ∀ b o, w.heap[b]? = some o → ¬ S' b → w'.heap[b]? = some o := fun b o ho hn => (hf.block b (Array.getElem?_eq_some_iff.1 ho).1 hn).trans ho
  obtain ⟨⟨d, h1, cs, A, c, h2, h3⟩, ⟨v, h4, h5⟩, es, ck, h6, h7⟩ := h
  refine ⟨⟨d, key _ _ h1 (fun a => (hfar _ a _ h1).2.1 _ rfl), cs, A, c, key _ _ h2 (fun a => (hfar _ a _ h2).2.2 _ rfl), h3⟩, ⟨v, key _ _ h4 ht, ?_⟩, es, ck, key _ _ h6 hm, h7⟩
  rcases h5 with ⟨e1, e2 | ⟨g, cap, cur, hv, hb, hh, hr⟩⟩
  · exact ⟨e1, .inl e2⟩
  · exact ⟨e1, .inr ⟨g, cap, cur, hv, hb, key _ _ hh (fun a => (hfar _ a _ hh).1 _ rfl), hr⟩⟩
theorem TSt.other {n n' : Nat} {a b : TAd} {root root' : Int} {σ σ' : Tp.Pst} {ids ids' : List Int} {es es' : List Ent} {tok tok' : Nat} {w w' : World} (h : TSt n a root σ ids es tok w) (hb : TSt n' b root' σ' ids' es' tok' w) (hne : ∀ k, b.F k → ¬ a.F k) (hf : Fr b.F w w') : TSt n a root σ ids es tok w' := by
  obtain ⟨Db, ⟨_, ⟨vb, hb4, _⟩, esb, ckb, hb6, _⟩, _, _⟩ := hb.on.tm.txn
  have hbu := hb.on.self
  have hfar : ∀ k, b.F k → ∀ o, w.heap[k]? = some o → (∀ cs, o ≠ .cells cs 120) ∧ (∀ cs, o ≠ .cells cs 99) ∧ (∀ cs, o ≠ .cells cs 110) := fun k hk o ho => by
    rcases hk with (rfl | rfl) | rfl
    · have e := ho.symm.trans hb4
      injection e with e; subst e
      exact ⟨fun cs e => (by injection e with _ e; cases e), fun cs e => (by injection e with _ e; cases e), fun cs e => (by injection e with _ e; cases e)⟩
    · have e := ho.symm.trans hb6
      injection e with e; subst e
      exact ⟨fun cs e => (by cases e), fun cs e => (by cases e), fun cs e => (by cases e)⟩
    · have e := ho.symm.trans hbu
      injection e with e; subst e
      exact ⟨fun cs e => (by injection e with _ e; cases e), fun cs e => (by injection e with _ e; cases e), fun cs e => (by injection e with _ e; cases e)⟩
  have hna : ∀ k, a.F k → ¬ b.F k := fun k h1 h2 => hne k h2 h1
  obtain ⟨D, h4, h5, h6⟩ := h.on.tm.txn
  exact ⟨⟨⟨⟨h.on.tm.low.1, h.on.tm.low.2.1, Nat.le_trans h.on.tm.low.2.2 hf.size⟩, h.on.tm.ap, h.on.tm.fit, D, h4.fr2 hf (hna _ (.inl (.inl rfl))) (hna _ (.inl (.inr rfl))) hfar, h5, h6⟩, hf.blk h.on.self (hna _ (.inr rfl)), h.on.hu⟩, h.rt, h.mine, h.tl⟩
theorem TAt.other {n n' : Nat} {a b : TAd} {es es' : List Ent} {tok tok' : Nat} {w w' : World} (h : TAt n a es tok w) (hb : TAt n' b es' tok' w) (hne : ∀ k, b.F k → ¬ a.F k) (hf : Fr b.F w w') : TAt n a es tok w' := by
  obtain ⟨r, s, i, h⟩ := h
  obtain ⟨r', s', i', hb⟩ := hb
  exact ⟨r, s, i, h.other hb hne hf⟩
end Go.Proofs.YtpfplojkiloldaaGreatDoor
namespace Go.Proofs.YtpfplojkiloldaaGreatDoor
open Go.RowKit Go.Shelf
set_option maxRecDepth 100000 in
set_option maxHeartbeats 1000000 in
theorem rsize_any (A : Option Addr) (c : Nat) (l : List Ent) (w : World) (hr : LS entE w w.heap.size A l) (hl : l.length ≤ 100000) (hs : Nd.esize l ≤ 1000000000) :
    Calls Tryz.prog 161 #[.slice A l.length c] w fun e w' => e = .returned (.int .i64 (Nd.esize l : Nat)) ∧ Below w.heap.size w w' := by
  obtain ⟨R, hR⟩ : ∃ R, R = Nd.esize l := ⟨_, rfl⟩
  rw [← hR] at hs ⊢
  have HR := Lib.hid hR
  have HT := Lib.hid (fun k => esize_take_le l k)
  clear hR
  go_enter Tryz.func161, Tryz.ntmps161
  go_wp2
  go_loopw [3, 4] (fun s i wr => ∃ k m : Nat, k ≤ l.length ∧ i = .int .i64 k ∧ s = .int .i64 m ∧ m ≤ 1000000000 ∧ Hid (m = Nd.esize (l.take k)) ∧ Below w.heap.size w wr) (fun _ i _ => l.length - (intOf i).toNat)
  case atStart => exact ⟨0, 0, by omega, rfl, rfl, by omega, Lib.hid rfl, Below.refl _ _⟩
  case round =>
    obtain ⟨k, m, hkk, rfl, rfl, hm, HM, hbe⟩ := hrel
    by_cases hlt : k < l.length
    · obtain ⟨b1, o1, rfl, hb1, g0, g1⟩ := (hr.below hbe).ent hlt
      have h1 := Nd.esize_take_succ l k hlt
      have h2 := HT.out (k + 1)
      rw [h1] at h2
      have H1 := Lib.hid h1
      obtain ⟨x, hx⟩ : ∃ x, x = l[k] := ⟨_, rfl⟩
      rw [← hx] at g0 g1 h2
      have h3 : m + (2 + x.1.size + x.2.size) ≤ 1000000000 := by rw [HM.out]; rw [HR.out] at hs; have : Nd.esz x = 2 + x.1.size + x.2.size := rfl; omega
      have HX := Lib.hid hx
      have hbz : b1 < wr.heap.size := Nat.lt_of_lt_of_le hb1 hbe.size
      have hki : (k : Int) < (l.length : Nat) := by omega
      have e1 : IntKind.i64.wrap ((m : Int) + 2) = (m : Int) + 2 := IntWalk.i64_in _ (by omega)
      have e2 : IntKind.i64.wrap ((m : Int) + 2 + (x.1.size : Nat)) = (m : Int) + 2 + (x.1.size : Nat) := IntWalk.i64_in _ (by omega)
      have e3 : IntKind.i64.wrap ((m : Int) + 2 + (x.1.size : Nat) + (x.2.size : Nat)) = (m : Int) + 2 + (x.1.size : Nat) + (x.2.size : Nat) := IntWalk.i64_in _ (by omega)
      clear h1 hx h2
      go_wp2
      go_quiet (fail)
      go_wp2
      go_roundw
      case rel =>
        refine ⟨k + 1, m + (2 + x.1.size + x.2.size), by omega, by go_num, by go_num, by omega, Lib.hid ?_, below_drewN hbe _⟩
        rw [H1.out, HM.out, ← HX.out]; rfl
      case measure => simp [intOf]; omega
    · obtain rfl : k = l.length := by omega
      go_wp2
      go_ret
      refine ⟨?_, hbe⟩
      have e1 : m = R := by rw [HM.out, HR.out, List.take_length]
      rw [e1]; rfl
set_option maxRecDepth 100000 in
set_option maxHeartbeats 1000000 in
theorem rnright_leaf (Ae Ai Ay : Option Addr) (ce ci cy : Nat) (l : List Ent) (hr : En.right l = true) (w : World) (he : LS entE w w.heap.size Ae l) (hl : l.length ≤ 100000) :
    Calls Tryz.prog 128 #[nodeV true Ae l.length ce Ai 0 ci Ay 0 cy] w fun e w' => e = .returned (.bool true) ∧ Below w.heap.size w w' := by
  have hB := Blk.new w 93 #[.bool true, .slice Ae l.length ce, .slice Ai 0 ci, .slice Ay 0 cy]
  have hE := rright_any Ae ce l (w.alloc (.cells #[.bool true, .slice Ae l.length ce, .slice Ai 0 ci, .slice Ay 0 cy] 93)) (he.up ((Below.refl _ _).alloc (Nat.le_refl _) _)) (by omega)
  rw [hr] at hE
  have HE := Lib.hid hE
  unfold nodeV
  clear he hE hr
  go_enter Tryz.func128, Tryz.ntmps128
  go_wp2_with fail
  refine HE.out.mono ?_
  rintro e w1 ⟨rfl, hb1⟩
  have hB1 := hB.below hb1 hB.lt
  have c1 := hB1.cell 2
  have c2 := hB1.cell 3
  have hl1 := hB1.lt
  go_wp2
  go_ret
  exact ⟨rfl, ((Below.refl _ _).alloc (Nat.le_refl _) _).trans (hb1.mono (by simp))⟩
set_option maxRecDepth 100000 in
set_option maxHeartbeats 2000000 in
theorem rnright_inner (Ae Ai Ay : Option Addr) (ce ci cy : Nat) (is : List Int) (ks : List ByteArray) (hlen : ks.length + 1 = is.length) (hk : ∀ i ∈ is, 2 ≤ i ∧ i ≤ 4294967295) (hs : Nd.keysFrom none ks = true) (w : World) (hi : LS intE w w.heap.size Ai is) (hy : LS keyE w w.heap.size Ay ks) (hl : is.length ≤ 100000) :
    Calls Tryz.prog 128 #[nodeV false Ae 0 ce Ai is.length ci Ay ks.length cy] w fun e w' => e = .returned (.bool true) ∧ Below w.heap.size w w' := by
  obtain ⟨hm, hsr⟩ := (Nd.keys_iff ks).1 hs
  have HK := Lib.hid hk
  have HM := Lib.hid hm
  have HS := Lib.hid hsr
  have HI := Lib.hid hi
  have HY := Lib.hid hy
  have hkl : ks.length ≤ 100000 := by omega
  have e0 : ((is.length : Int) == 0) = false := by rw [beq_eq_false_iff_ne]; omega
  have e1 : IntKind.i64.wrap ((is.length : Int) - 1) = (ks.length : Int) := (IntWalk.i64_in _ (by omega)).trans (by omega)
  have hbe := (Below.refl w.heap.size w).alloc (Nat.le_refl _) (.cells #[.bool false, .slice Ae 0 ce, .slice Ai is.length ci, .slice Ay ks.length cy] 93)
  have hB := Blk.new w 93 #[.bool false, .slice Ae 0 ce, .slice Ai is.length ci, .slice Ay ks.length cy]
  unfold nodeV
  clear hk hs hm hsr hi hy
  go_enter Tryz.func128, Tryz.ntmps128
  go_wp2
  go_loopw [4] (fun i wr => ∃ k : Nat, k ≤ is.length ∧ i = .int .i64 k ∧ Below w.heap.size w wr ∧ Blk wr w.heap.size 93 #[.bool false, .slice Ae 0 ce, .slice Ai is.length ci, .slice Ay ks.length cy]) (fun i _ => is.length - (intOf i).toNat)
  case atStart => exact ⟨0, by omega, rfl, hbe, hB⟩
  case round =>
    obtain ⟨k, hkk, rfl, hbr, hBr⟩ := hrel
    have q2 := hBr.cell 2
    have q3 := hBr.cell 3
    have ql := hBr.lt
    by_cases hlt : k < is.length
    · obtain ⟨b1, o1, rfl, hb1, g0⟩ := (HI.out.below hbr).int hlt
      have hr := HK.out _ (List.getElem_mem hlt)
      generalize is[k] = x at *
      have hbz : b1 < wr.heap.size := Nat.lt_of_lt_of_le hb1 hbr.size
      have r1 : ¬ x < 2 := by omega
      have r2 : ¬ 4294967295 < x := by omega
      have hki : (k : Int) < (is.length : Nat) := by omega
      clear hr
      go_wp2
      go_roundw
      case rel => exact ⟨k + 1, by omega, by go_num, hbr, hBr⟩
      case measure => simp [intOf]; omega
    · obtain rfl : k = is.length := by omega
      clear hlt
      go_wp2
      go_loopw [5] (fun i wr => ∃ k : Nat, k ≤ ks.length ∧ i = .int .i64 k ∧ Below w.heap.size w wr ∧ Blk wr w.heap.size 93 #[.bool false, .slice Ae 0 ce, .slice Ai is.length ci, .slice Ay ks.length cy]) (fun i _ => ks.length - (intOf i).toNat)
      case atStart => exact ⟨0, by omega, rfl, hbr, hBr⟩
      case round =>
        obtain ⟨k, hkk, rfl, hbr, hBr⟩ := hrel
        have q2 := hBr.cell 2
        have q3 := hBr.cell 3
        have ql := hBr.lt
        by_cases hlt : k < ks.length
        · obtain ⟨b1, o1, rfl, hb1, g0⟩ := (HY.out.below hbr).key hlt
          have hmx := HM.out _ (List.getElem_mem hlt)
          have hc := fun W => may_any ks[k] ⟨#[]⟩ W
          rw [hmx] at hc
          have HC := Lib.hid hc
          have hbz : b1 < wr.heap.size := Nat.lt_of_lt_of_le hb1 hbr.size
          have hki : (k : Int) < (ks.length : Nat) := by omega
          by_cases h0 : k = 0
          · subst h0
            generalize ks[0] = x at *
            simp only [Nat.add_zero] at g0
            clear hmx hc
            go_wp2_with fail
            refine (HC.out _).mono ?_
            rintro e _ ⟨rfl, rfl⟩
            go_wp2
            go_quiet (fail)
            go_wp2
            go_roundw
            case rel => exact ⟨1, by omega, rfl, below_drewN hbr _, hBr⟩
            case measure => simp [intOf]; omega
          · obtain ⟨b2, o2, hx2, hb2, g1⟩ := (HY.out.below hbr).key (k := k - 1) (by omega)
            cases hx2
            have hlt2 := List.pairwise_iff_getElem.1 HS.out (k - 1) k (by omega) hlt (by omega)
            have hbl : Op.bytesLess (ks[k - 1]'(by omega)).toList (ks[k]).toList = true := hlt2
            generalize ks[k] = x at *
            generalize ks[k - 1]'(by omega) = y at *
            have hk0 : 0 < (k : Int) := by omega
            have hkn : 0 < k := by omega
            have ek : IntKind.i64.wrap ((k : Int) - 1) = ((k - 1 : Nat) : Int) := (IntWalk.i64_in _ (by omega)).trans (by omega)
            have hk1 : k - 1 < ks.length := by omega
            clear hmx hc hlt2 h0
            go_wp2_with fail
            refine (HC.out _).mono ?_
            rintro e _ ⟨rfl, rfl⟩
            go_wp2
            go_quiet (fail)
            go_wp2
            go_roundw
            case rel => exact ⟨k + 1, by omega, by go_num, below_drewN hbr _, hBr⟩
            case measure => simp [intOf]; omega
        · obtain rfl : k = ks.length := by omega
          go_wp2
          go_ret
          exact ⟨rfl, hbr⟩
set_option maxRecDepth 100000 in
set_option maxHeartbeats 1000000 in
theorem rnsize_leaf (Ae Ai Ay : Option Addr) (ce ci cy ni ny : Nat) (l : List Ent) (w : World) (he : LS entE w w.heap.size Ae l) (hl : l.length ≤ 100000) (hs : Nd.esize l ≤ 1000000000) :
    Calls Tryz.prog 129 #[nodeV true Ae l.length ce Ai ni ci Ay ny cy] w fun e w' => e = .returned (.int .i64 (Nd.esize l : Nat)) ∧ Below w.heap.size w w' := by
  have HE := Lib.hid (rsize_any Ae ce l (w.alloc (.cells #[.bool true, .slice Ae l.length ce, .slice Ai ni ci, .slice Ay ny cy] 93)) (he.up ((Below.refl _ _).alloc (Nat.le_refl _) _)) hl hs)
  unfold nodeV
  clear he hs
  generalize Nd.esize l = R at *
  go_enter Tryz.func129, Tryz.ntmps129
  go_wp2_with fail
  refine HE.out.mono ?_
  rintro e w1 ⟨rfl, hb1⟩
  go_wp2
  go_ret
  exact ⟨rfl, ((Below.refl _ _).alloc (Nat.le_refl _) _).trans (hb1.mono (by simp))⟩
set_option maxRecDepth 100000 in
set_option maxHeartbeats 1000000 in
theorem rnsize_inner (Ae Ai Ay : Option Addr) (ce ci cy ne ni : Nat) (ks : List ByteArray) (w : World) (hy : LS keyE w w.heap.size Ay ks) (hl : ks.length ≤ 100000) (hs : Nd.ksize ks ≤ 1000000000) :
    Calls Tryz.prog 129 #[nodeV false Ae ne ce Ai ni ci Ay ks.length cy] w fun e w' => e = .returned (.int .i64 ((4 + Nd.ksize ks : Nat) : Int)) ∧ Below w.heap.size w w' := by
  obtain ⟨R, hR⟩ : ∃ R, R = Nd.ksize ks := ⟨_, rfl⟩
  rw [← hR] at hs ⊢
  have HR := Lib.hid hR
  have HT := Lib.hid (fun k => ksize_take_le ks k)
  have hbe := (Below.refl w.heap.size w).alloc (Nat.le_refl _) (.cells #[.bool false, .slice Ae ne ce, .slice Ai ni ci, .slice Ay ks.length cy] 93)
  have hk := hy.below hbe
  unfold nodeV
  clear hR hy
  go_enter Tryz.func129, Tryz.ntmps129
  go_wp2
  go_loop [3, 4] (fun s i => ∃ k m : Nat, k ≤ ks.length ∧ i = .int .i64 k ∧ s = .int .i64 m ∧ m ≤ 1000000004 ∧ Hid (m = 4 + Nd.ksize (ks.take k))) (fun _ i => ks.length - (intOf i).toNat)
  case atStart => exact ⟨0, 4, by omega, rfl, rfl, by omega, Lib.hid rfl⟩
  case round =>
    obtain ⟨k, m, hkk, rfl, rfl, hm, HM⟩ := hrel
    by_cases hlt : k < ks.length
    · obtain ⟨b1, o1, rfl, hb1, g0⟩ := hk.key hlt
      have h1 := Nd.ksize_take_succ ks k hlt
      have h2 := HT.out (k + 1)
      rw [h1] at h2
      have H1 := Lib.hid h1
      obtain ⟨x, hx⟩ : ∃ x, x = ks[k] := ⟨_, rfl⟩
      rw [← hx] at g0 h2
      have h3 : m + (5 + x.size) ≤ 1000000004 := by rw [HM.out]; rw [HR.out] at hs; have : Nd.ksz x = 5 + x.size := rfl; omega
      have HX := Lib.hid hx
      have hki : (k : Int) < (ks.length : Nat) := by omega
      have h5 : 0 ≤ (x.size : Int) := by omega
      clear h1 hx h2
      go_wp2
      go_round
      case rel =>
        refine ⟨k + 1, m + (5 + x.size), by omega, by go_num, by go_num, by omega, Lib.hid ?_⟩
        rw [H1.out, HM.out, ← HX.out]; show _ = _ + (_ + (5 + x.size)); omega
      case measure => simp [intOf]; omega
    · obtain rfl : k = ks.length := by omega
      go_wp2
      go_ret
      refine ⟨?_, hbe⟩
      have e1 : m = 4 + R := by rw [HM.out, HR.out, List.take_length]
      rw [e1]; rfl
end Go.Proofs.YtpfplojkiloldaaGreatDoor
namespace Go.Proofs.YtpfplojkiloldaaGreatDoor
open Go.RowKit Go.Shelf
def NL (B : Nat) (w : World) (x : RawPg) (n : Nd.Node) : Prop := x.leaf = n.leaf ∧ x.ne = n.ents.length ∧ x.ni = n.kids.length ∧ x.ny = n.keys.length ∧ LS entE w B x.ae n.ents ∧ LS intE w B x.ai n.kids ∧ LS keyE w B x.ay n.keys
theorem NL.below {B : Nat} {w w' : World} {x : RawPg} {n : Nd.Node} (h : NL B w x n) (hb : Below B w w') : NL B w' x n := by
  obtain ⟨h1, h2, h3, h4, h5, h6, h7⟩ := h
  exact ⟨h1, h2, h3, h4, h5.below hb, h6.below hb, h7.below hb⟩
structure PgL (g : Nat) (LA : Option Addr) (xs : List RawPg) (P : List (Int × Nat × Nd.Node)) (w : World) : Prop where
  ls : LS pgE w g LA xs
  len : xs.length = P.length
  at_ : ∀ (j : Nat) (h1 : j < xs.length) (h2 : j < P.length), xs[j].id = P[j].1 ∧ xs[j].depth = P[j].2.1 ∧ NL g w xs[j] P[j].2.2
theorem PgL.below {g : Nat} {LA : Option Addr} {xs : List RawPg} {P : List (Int × Nat × Nd.Node)} {w w' : World} (h : PgL g LA xs P w) (hb : Below g w w') : PgL g LA xs P w' :=
  ⟨h.ls.below hb, h.len, fun j h1 h2 => ⟨(h.at_ j h1 h2).1, (h.at_ j h1 h2).2.1, (h.at_ j h1 h2).2.2.below hb⟩⟩
def WkAt (g : Nat) (LA : Option Addr) (ln lc : Nat) (k leaf : Int) (o : List Ent) (Y : Option Nat) (w : World) : Prop :=
  ∃ oA oc, Blk w g 150 #[.slice LA ln lc, .int .i64 k, .int .i64 leaf, .slice oA o.length oc] ∧ LO entE 38 w (g + 1) (.slice oA o.length oc) o ∧ Y = (Value.slice oA o.length oc).ownBlock
def RpEnd (g : Nat) (LA : Option Addr) (ln lc : Nat) (k leaf : Int) (o : List Ent) (Y : Option Nat) (w : World) (e : Ending) (w' : World) : Prop :=
  e = .returned (.bool true) ∧ (∃ Y', WkAt g LA ln lc k leaf o Y' w' ∧ ∀ b, Y' = some b → Y = some b ∨ w.heap.size ≤ b) ∧ Fr (fun b => b = g ∨ Y = some b) w w'
def bs (o : Option En.Str) : ByteArray := o.getD ⟨#[]⟩
theorem bs_lo {lo : Option En.Str} {k : En.Str} (h : Tp.gtLo lo k) : Op.bytesLess k.toList (bs lo).toList = false := by
  cases lo with
  | none =>
    show Op.bytesLess k.toList (⟨#[]⟩ : ByteArray).toList = false
    rw [Go.Lib.toList_data (⟨#[]⟩ : ByteArray)]
    cases k.toList <;> rfl
  | some a => exact Tp.gtLo_some.1 h
theorem step_app2 {P : Program} {w : World} {ops : Array Oper} {o : Oper} {a : Act} {K : Act → World → Prop} {Q : Exit → Act → World → Prop} {E : Prop} (hgd : o.guard = none) (s x : Operand) (t : TypeId)
    (ho : o.op = .call { callee := .builtin .append, args := #[s, x], argTypes := #[t, t] })
    {base : Nat} {e : TypeId} {z : Value} {size bytes : Nat} (hE : EI P e z size bytes) (ht : P.underlying t = some (.slice e)) (hzs : z.cells.size = size) (hsz : 0 < size)
    {v : Value} {n : Nat} {xs : List Value} (hs : a.eval s = v) (hown : w.ownsRow base e size v n xs)
    {cs : Array Value} {te : TypeId} {gx : Nat} (hx : a.eval x = .slice (some ⟨gx, 0, none⟩) 1 1) (hgx : gx = w.heap.size) (hl : cs.size = size) (h1 : ∀ u ∈ cs.toList, u.oneCell' = true)
    (hb63 : n + 1 ≤ maxLen) (hbytes : (n + 1) * bytes ≤ 140737488355328) (hbase : base ≤ w.heap.size)
    (h : ∀ v' w', w'.ownsRow base e size v' (n + 1) (xs ++ cs.toList) → w.grownBy w' v.ownBlock → Below base w w' → (v'.ownBlock = v.ownBlock ∨ ∃ g, v'.ownBlock = some g ∧ w.heap.size ≤ g) → K (a.put o.dst v') w') :
    if Region.wanted o (yielded ops a.tmps) = true then Oper.wp P o a (w.alloc (.cells cs te)) K Q else E := by
  have hw : Region.wanted o (yielded ops a.tmps) = true := by simp [Region.wanted, hgd]
  rw [if_pos hw]
  obtain ⟨i, hi, hz0, hz1, hz2⟩ := hE
  subst hgx
  have hcell : ∀ j u, cs.toList[j]? = some u → (w.alloc (.cells cs te)).cell? ((⟨w.heap.size, 0, none⟩ : Addr).add j) = some u := by
    intro j u hu
    have e1 : ((⟨w.heap.size, 0, none⟩ : Addr).add j) = ⟨w.heap.size, j, none⟩ := by rw [Addr.add_lit]; simp
    rw [e1, (Blk.new w te cs).cell j]
    simpa using hu
  obtain ⟨v', w', hrun, h2, h3, h4, h5⟩ := run_append_own_at (P := P) (w.alloc (.cells cs te)) base t o.type e i z size bytes ht hi hz0 hz1 hz2 hzs hsz v n xs (hown.alloc _) ⟨w.heap.size, 0, none⟩ 1 1 cs.toList (by simp [hl]) hcell h1 hb63 hbytes (by simp; omega)
  have hg : w.grownBy w' v.ownBlock := (World.grownBy_alloc w _ _).trans h3
  unfold Oper.wp execOp
  simp only [ho, resolve, invoke, builtin, Sem.run_bind, Sem.run_pure, Result.andThen_ok, List.map_toArray, List.map_cons, List.map_nil, hs, hx, hrun]
  refine h v' w' h2 hg ((Below.refl _ _).grown hg hbase fun k hk => (hown.lt k hk).1) ?_
  rcases h5 with h5 | h5
  · exact .inl h5
  · exact .inr ⟨_, h5, by simp⟩
theorem kids_drop {X : Type} {P rest : List X} {f : Tp.Sub → List X} {k : Nat} (subs : List Tp.Sub) (hlen : ∀ t ∈ subs, (f t).length = t.ids.length) (hP : P.drop k = subs.flatMap f ++ rest) (i : Nat) : P.drop (k + (Tp.ids_ (subs.take i)).length) = (subs.drop i).flatMap f ++ rest := by
  have hl : ((subs.take i).flatMap f).length = (Tp.ids_ (subs.take i)).length := by
    have key : ∀ l : List Tp.Sub, (∀ t ∈ l, t ∈ subs) → (l.flatMap f).length = (Tp.ids_ l).length := fun l => by
      induction l with
      | nil => intro _; rfl
      | cons t l ih =>
        intro h
        rw [Tp.ids_cons, List.flatMap_cons, List.length_append, List.length_append, hlen t (h t List.mem_cons_self), ih fun u hu => h u (List.mem_cons_of_mem _ hu)]
    exact key _ fun t ht => List.mem_of_mem_take ht
  have e : subs.flatMap f = (subs.take i).flatMap f ++ (subs.drop i).flatMap f := by rw [← List.flatMap_append, List.take_append_drop]
  rw [← List.drop_drop, hP, e, List.append_assoc]
  exact List.drop_left' hl
def lowB (lo : Option En.Str) (keys : List En.Str) (i : Nat) : Option En.Str := if i = 0 then lo else keys[i - 1]?
def uppB (hi : Option En.Str) (keys : List En.Str) (i : Nat) : Option En.Str := (keys[i]?).or hi
theorem chain_bounds {Q : Tp.SubP} {hi : Option En.Str} : ∀ {subs : List Tp.Sub} {keys : List En.Str} {lo : Option En.Str} {i : Nat} (h : i < subs.length), Tp.Chain Q lo hi subs keys → Q (lowB lo keys i) (uppB hi keys i) subs[i]
  | [], _, _, _, h, _ => absurd h (by simp)
  | [s], [], lo, 0, _, hc => hc
  | [s], [], lo, i + 1, h, _ => absurd h (by simp)
  | [s], k :: ks, lo, i, h, hc => (hc.2 : False).elim
  | s :: t :: r, [], lo, i, h, hc => (hc : False).elim
  | s :: t :: r, k :: ks, lo, 0, _, hc => hc.1
  | s :: t :: r, k :: ks, lo, i + 1, h, hc => by
    have ih := chain_bounds (i := i) (by simpa using h) hc.2
    have e1 : lowB lo (k :: ks) (i + 1) = lowB (some k) ks i := by
      unfold lowB
      rw [if_neg (by omega)]
      cases i with
      | zero => rfl
      | succ i => rw [if_neg (by omega)]; rfl
    have e2 : uppB hi (k :: ks) (i + 1) = uppB hi ks i := rfl
    rw [e1, e2]
    exact ih
theorem rnright_nl {B : Nat} {W : World} {x : RawPg} {n : Nd.Node} (h : NL B W x n) (hB : B ≤ W.heap.size) (hf : Nd.fits n = true) :
    Calls Tryz.prog 128 #[nodeV x.leaf x.ae x.ne x.ce x.ai x.ni x.ci x.ay x.ny x.cy] W fun e w' => e = .returned (.bool true) ∧ Below W.heap.size W w' := by
  obtain ⟨h1, h2, h3, h4, h5, h6, h7⟩ := h
  have hr := (Tp.fits_iff.1 hf).1
  have hnb := fits_nb hf
  obtain ⟨leaf, ents, kids, keys⟩ := n
  simp only at h1 h2 h3 h4 h5 h6 h7
  rw [h1, h2, h3, h4]
  cases leaf with
  | true =>
    obtain ⟨r1, rfl, rfl⟩ := Nd.right_leaf.1 hr
    exact rnright_leaf x.ae x.ai x.ay x.ce x.ci x.cy ents r1 W (h5.more hB) hnb.e
  | false =>
    obtain ⟨rfl, r2, r3, r4⟩ := Nd.right_inner.1 hr
    exact rnright_inner x.ae x.ai x.ay x.ce x.ci x.cy kids keys r2 r3 r4 W (h6.more hB) (h7.more hB) hnb.i
theorem rnsize_nl {B : Nat} {W : World} {x : RawPg} {n : Nd.Node} (h : NL B W x n) (hB : B ≤ W.heap.size) (hf : Nd.fits n = true) :
    Calls Tryz.prog 129 #[nodeV x.leaf x.ae x.ne x.ce x.ai x.ni x.ci x.ay x.ny x.cy] W fun e w' => e = .returned (.int .i64 ((Nd.size n : Nat) : Int)) ∧ Below W.heap.size W w' := by
  obtain ⟨h1, h2, h3, h4, h5, h6, h7⟩ := h
  have hnb := fits_nb hf
  obtain ⟨leaf, ents, kids, keys⟩ := n
  simp only at h1 h2 h3 h4 h5 h6 h7
  rw [h1, h2, h3, h4]
  cases leaf with
  | true => exact rnsize_leaf x.ae x.ai x.ay x.ce x.ci x.cy _ _ ents W (h5.more hB) hnb.e hnb.es
  | false => exact rnsize_inner x.ae x.ai x.ay x.ce x.ci x.cy _ _ keys W (h7.more hB) hnb.k hnb.ks
set_option maxRecDepth 100000 in
set_option maxHeartbeats 4000000 in
theorem part_leaf {v : Int → Option Nd.Node} (g : Nat) (LA : Option Addr) (lc : Nat) (xs : List RawPg) (P : List (Int × Nat × Nd.Node)) (hxs : xs.length ≤ 100000) (h : Nat) (h0 : h = 0) (d k : Nat) (lo hi : Option En.Str) (s : Tp.Sub) (leaf : Int) (o : List Ent) (Y : Option Nat) (rest : List (Int × Nat × Nd.Node)) (w : World)
    (ht : Tp.Tr v h lo hi s) (hhi : ∀ b, hi = some b → 0 < b.size) (hP : P.drop k = Tp.pgL v h d s.id ++ rest) (hd : d + h ≤ 23) (hl : leaf = -1 ∨ leaf = ((d + h : Nat) : Int)) (ho : o.length + s.es.length ≤ 100000) (hpg : PgL g LA xs P w) (hw : WkAt g LA xs.length lc (k : Nat) leaf o Y w) :
    Calls Tryz.prog 83 #[.pointer (some ⟨g, 0, none⟩), .string (bs lo), .string (bs hi), .int .i64 (d : Nat)] w (RpEnd g LA xs.length lc ((k + s.ids.length : Nat) : Int) ((d + h : Nat) : Int) (o ++ s.es) Y w) := by
  obtain ⟨n, hv, hfit, hlf⟩ := Tp.tr_node ht
  have hpl : ∃ more, Tp.pgL v h d s.id = (s.id, d, n) :: more := by
    cases h <;> rw [Tp.pgL, hv] <;> exact ⟨_, rfl⟩
  obtain ⟨more, hpl⟩ := hpl
  have hkP : k < P.length := by
    have := congrArg List.length hP
    rw [hpl] at this
    simp at this
    omega
  have hPk : P[k] = (s.id, d, n) := by
    have h := List.drop_eq_getElem_cons hkP
    rw [hP, hpl] at h
    injection h with h _
    exact h.symm
  have hkx : k < xs.length := by have := hpg.len; omega
  obtain ⟨p1, p2, hnl⟩ := hpg.at_ k hkx hkP
  rw [hPk] at p1 p2 hnl
  simp only at p1 p2
  obtain ⟨b, off, rfl, hb, c0, c1, c2, c3, c4, c5⟩ := hpg.ls.pg hkx
  generalize xs[k] = x at *
  have HNL := Lib.hid hnl
  obtain ⟨oA, oc, hB, hrow, hY⟩ := hw
  have m0 := hB.cell 0
  have m1 := hB.cell 1
  have m2 := hB.cell 2
  have m3 := hB.cell 3
  have ml := hB.lt
  have hki : ¬ (xs.length : Int) ≤ (k : Nat) := by omega
  have hdi : ¬ 23 < (d : Int) := by omega
  have hkk : (k : Int) < (xs.length : Nat) := by omega
  have hwk : IntKind.i64.wrap ((k : Int) + 1) = (k : Int) + 1 := IntWalk.i64_in _ (by omega)
  have HHI := Lib.hid hhi
  have HPP := Lib.hid hP
  have HTR := Lib.hid ht
  have HFIT := Lib.hid hfit
  have HYY := Lib.hid hY
  have HLEAF := Lib.hid hl
  have HPG := Lib.hid hpg
  have hsz := (Tp.fits_iff.1 hfit).2
  have HLF := Lib.hid hlf
  have HV := Lib.hid hv
  obtain ⟨kE, hkE⟩ : ∃ x : Int, x = ((k + s.ids.length : Nat) : Int) := ⟨_, rfl⟩
  obtain ⟨dE, hdE⟩ : ∃ x : Int, x = ((d + h : Nat) : Int) := ⟨_, rfl⟩
  obtain ⟨los, hlos⟩ : ∃ x, x = bs lo := ⟨_, rfl⟩
  obtain ⟨his, hhis⟩ : ∃ x, x = bs hi := ⟨_, rfl⟩
  rw [← hkE, ← hdE, ← hlos, ← hhis]
  have HLS := Lib.hid hlos
  have HHS := Lib.hid hhis
  have HKE := Lib.hid hkE
  have HDE := Lib.hid hdE
  clear hP hPk hhi hv ht hfit hnl hpl hY hl hlf hkP hkE hdE hlos hhis
  go_enter Tryz.func83, Tryz.ntmps83
  go_wp2
  go_quiet (fail)
  have hbz : b < w.heap.size := Nat.lt_trans hb ml
  have hd1 := below_drewN (Below.refl w.heap.size w) nq
  have hB1 := hB.below hd1 ml
  have hr1 := hrow.below hd1
  have HP1 := Lib.hid (hpg.below (hd1.mono (Nat.le_of_lt ml)))
  have HN1 := Lib.hid (HNL.out.below (hd1.mono (Nat.le_of_lt ml)))
  have c0 := (hd1.cell (p := ⟨b, off + k * 6, none⟩) hbz).trans c0
  have c1 := (hd1.cell (p := ⟨b, off + k * 6 + 1, none⟩) hbz).trans c1
  have c2 := (hd1.cell (p := ⟨b, off + k * 6 + 2, none⟩) hbz).trans c2
  have c3 := (hd1.cell (p := ⟨b, off + k * 6 + 3, none⟩) hbz).trans c3
  have c4 := (hd1.cell (p := ⟨b, off + k * 6 + 4, none⟩) hbz).trans c4
  have c5 := (hd1.cell (p := ⟨b, off + k * 6 + 5, none⟩) hbz).trans c5
  have hbz1 : b < (w.drewN nq).heap.size := Nat.lt_of_lt_of_le hbz hd1.size
  have HD1 := Lib.hid hd1
  clear hpg hrow hB m0 m1 m2 m3 HNL hd1
  go_wp2
  generalize w.drewN nq = w1 at *
  have m0 := hB1.cell 0
  have m1 := hB1.cell 1
  have m2 := hB1.cell 2
  have m3 := hB1.cell 3
  have ml1 := hB1.lt
  go_region
  have hb2 : Below w1.heap.size w1 (w1.alloc (.cells #[.int .i64 s.id, .int .i64 (d : Nat), .bool x.leaf, .slice x.ae x.ne x.ce, .slice x.ai x.ni x.ci, .slice x.ay x.ny x.cy] 95)).drew := ((Below.refl _ w1).alloc (Nat.le_refl _) _).drew
  have hBp : Blk (w1.alloc (.cells #[.int .i64 s.id, .int .i64 (d : Nat), .bool x.leaf, .slice x.ae x.ne x.ce, .slice x.ai x.ni x.ci, .slice x.ay x.ny x.cy] 95)).drew w1.heap.size 95 #[.int .i64 s.id, .int .i64 (d : Nat), .bool x.leaf, .slice x.ae x.ne x.ce, .slice x.ai x.ni x.ci, .slice x.ay x.ny x.cy] := Blk.new w1 _ _
  have hB2 := hB1.below hb2 ml1
  have hr2 := hr1.below hb2
  have HP2 := Lib.hid (HP1.out.below (hb2.mono (Nat.le_of_lt ml1)))
  have HN2 := Lib.hid (HN1.out.below (hb2.mono (Nat.le_of_lt ml1)))
  have HD2 := Lib.hid (HD1.out.trans (hb2.mono HD1.out.size))
  have hz1 := HD1.out.size
  clear hB1 hr1 HP1 HN1 m0 m1 m2 m3 c0 c1 c2 c3 c4 c5 HD1 hb2
  generalize (w1.alloc (.cells #[.int .i64 s.id, .int .i64 (d : Nat), .bool x.leaf, .slice x.ae x.ne x.ce, .slice x.ai x.ni x.ci, .slice x.ay x.ny x.cy] 95)).drew = w2 at *
  generalize w1.heap.size = pb at *
  have hpg2 : pb ≠ g := by omega
  have m1 : w2.cell? ⟨g, 1, none⟩ = some (.int .i64 (k : Nat)) := hB2.cell 1
  have mf := hB2.frozen 1
  have ml2 := hB2.lt
  have p0 := hBp.cell 0
  have p1' := hBp.cell 1
  have p2' := hBp.cell 2
  have p3 := hBp.cell 3
  have p4 := hBp.cell 4
  have p5 := hBp.cell 5
  have pl := hBp.lt
  have hS3 : Below g w2 (w2.setCell ⟨g, 1, none⟩ (.int .i64 ((k : Int) + 1))) := (Below.refl g w2).setCell (p := ⟨g, 1, none⟩) (Nat.le_refl g) _
  have hF3 : Fr (fun b => b = g) w2 (w2.setCell ⟨g, 1, none⟩ (.int .i64 ((k : Int) + 1))) := Fr.set_ (S := fun b => b = g) rfl _
  have HRI := Lib.hid (rnright_nl (HN2.out.below hS3) (by rw [World.size_setCell]; omega) HFIT.out)
  have HB3 := Lib.hid (hB2.set_ 1 (.int .i64 ((k : Int) + 1)))
  have HBp3 := Lib.hid (hF3.blk hBp hpg2)
  have HR3 := Lib.hid (LO.fr hr2 hF3 (fun b e => by omega))
  have HP3 := Lib.hid (HP2.out.below hS3)
  have HN3 := Lib.hid (HN2.out.below hS3)
  have HFr3 := Lib.hid ((Fr.of_below HD2.out : Fr (fun b => b = g ∨ Y = some b) w w2).trans (hF3.more fun _ => .inl))
  clear hS3 hF3 HP2 HN2 hr2
  go_wp2_with fail
  refine HRI.out.mono ?_
  rintro e w4 ⟨rfl, b4⟩
  have hz4 := b4.size
  simp only [World.size_setCell] at hz4
  have hBp4 := HBp3.out.below b4 HBp3.out.lt
  have p0 := hBp4.cell 0
  have p1' := hBp4.cell 1
  have p2' := hBp4.cell 2
  have p3 := hBp4.cell 3
  have p4 := hBp4.cell 4
  have p5 := hBp4.cell 5
  have pl := hBp4.lt
  have hg4 : g ≤ (w2.setCell ⟨g, 1, none⟩ (.int .i64 ((k : Int) + 1))).heap.size := by rw [World.size_setCell]; omega
  have HP4 := Lib.hid (HP3.out.below (b4.mono hg4))
  have HN4 := Lib.hid (HN3.out.below (b4.mono hg4))
  have HB4 := Lib.hid (HB3.out.below b4 HB3.out.lt)
  have HR4 := Lib.hid (HR3.out.below b4)
  have HFr4 := Lib.hid (HFr3.out.trans (.of_below b4))
  have HBp4 := Lib.hid hBp4
  have HSZ := Lib.hid (rnsize_nl HN4.out (by omega) HFIT.out)
  clear b4 hBp hBp4 hB2 HRI HB3 HBp3 HR3 HP3 HN3 HFr3 m1 mf hg4
  go_wp2_with fail
  refine HSZ.out.mono ?_
  rintro e w5 ⟨rfl, b5⟩
  have hz5 := b5.size
  have hs240 : ¬ (240 : Int) < (Nd.size n : Nat) := by omega
  generalize Nd.size n = zn at *
  have hBp5 := HBp4.out.below b5 HBp4.out.lt
  have HP5 := Lib.hid (HP4.out.below (b5.mono (by omega)))
  have HN5 := Lib.hid (HN4.out.below (b5.mono (by omega)))
  have hB5 := HB4.out.below b5 HB4.out.lt
  have HR5 := Lib.hid (HR4.out.below b5)
  have HFr5 := Lib.hid (HFr4.out.trans (.of_below b5))
  have p2' := hBp5.cell 2
  have p3 := hBp5.cell 3
  have p4 := hBp5.cell 4
  have p5 := hBp5.cell 5
  have pl := hBp5.lt
  have g2 : w5.cell? ⟨g, 2, none⟩ = some (.int .i64 leaf) := hB5.cell 2
  have g2f := hB5.frozen 2
  have gl := hB5.lt
  have HB5 := Lib.hid hB5
  have HBp5 := Lib.hid hBp5
  clear b5 hB5 hBp5 HP4 HN4 HB4 HR4 HFr4 HBp4 HSZ p0 p1'
  subst h0
  obtain ⟨t1, t2, t3, t4, t5, t6⟩ := HTR.out
  have hn : n = Nd.mkLeaf s.es := by have := HV.out; rw [t1] at this; injection this with this; exact this.symm
  subst hn
  have HID : Hid (s.ids.length = 1) := Lib.hid (by rw [t2]; rfl)
  have HIN := Lib.hid t5
  have hsne := t4
  clear t1 t2 t3 t4 t5 t6
  obtain ⟨n1, n2, n3, n4, n5, n6, n7⟩ := HN5.out
  have hxl : x.leaf = true := n1
  have hxe : x.ne = s.es.length := n2
  have HNE := Lib.hid n5
  rw [hxl] at p2'
  rw [hxe] at p3
  obtain ⟨ne, hne⟩ : ∃ m, m = s.es.length := ⟨_, rfl⟩
  rw [← hne] at p3
  have HXE := Lib.hid (hxe.trans hne.symm)
  have HLN := Lib.hid hne
  have hne0 : 0 < ne := by rw [hne]; exact List.length_pos_iff.2 hsne
  have hno : o.length + ne ≤ 100000 := by rw [hne]; exact ho
  clear n1 n2 n3 n4 n5 n6 n7 HN5 hxl hxe hne hsne ho
  go_upto_if 72 with fail
  go_cut [] from 68 to 76 (fun wx => Blk wx g 150 #[.slice (some ⟨b, off, none⟩) xs.length lc, .int .i64 ((k : Int) + 1), .int .i64 (d : Nat), .slice oA o.length oc] ∧ Fr (fun b => b = g) w5 wx)
  case first =>
    rcases HLEAF.out with hl | hl
    · subst hl
      go_wp2
      go_meet
      exact ⟨HB5.out.set_ 2 _, Fr.set_ (S := fun b => b = g) rfl _⟩
    · have hl2 : leaf = (d : Int) := by rw [hl]; rfl
      subst hl2
      have hdn : ¬ (d : Int) < 0 := by omega
      clear hl
      go_wp2
      go_meet
      exact ⟨HB5.out, Fr.refl _⟩
  case rest =>
    obtain ⟨hBc, hfc⟩ := hcut
    have hzc := hfc.size
    have hlow : Below g w5 wc := hfc.low (by omega) (fun k e => by omega)
    have HBc := Lib.hid hBc
    have HBpc := Lib.hid (hfc.blk HBp5.out hpg2)
    have HRc := Lib.hid (LO.fr HR5.out hfc (fun b e => by omega))
    have HNEc := Lib.hid (HNE.out.below hlow)
    have HFrc := Lib.hid (HFr5.out.trans (hfc.more fun _ => .inl))
    have HOB : Hid (∀ b, (Value.slice oA o.length oc).ownBlock = some b → Y = some b ∨ w.heap.size ≤ b) := Lib.hid fun b e => .inl (HYY.out.trans e)
    clear hBc hfc hlow HB5 HBp5 HR5 HNE HFr5 p2' p3 p4 p5 pl g2 g2f gl hs240 HLEAF
    go_wp2
    go_loopg [11] ne (fun gg s11 wr => ∃ (j : Nat) (oA' : Option Addr) (oc' : Nat) (o' : List Ent), s11 = .int .i64 (j : Nat) ∧ j ≤ ne ∧ ne - j ≤ gg ∧ Hid (o' = o ++ s.es.take j) ∧ o'.length ≤ o.length + j ∧ Hid (Blk wr g 150 #[.slice (some ⟨b, off, none⟩) xs.length lc, .int .i64 ((k : Int) + 1), .int .i64 (d : Nat), .slice oA' o'.length oc']) ∧ Hid (LO entE 38 wr (g + 1) (.slice oA' o'.length oc') o') ∧ Hid (∀ b, (Value.slice oA' o'.length oc').ownBlock = some b → Y = some b ∨ w.heap.size ≤ b) ∧ Hid (Fr (fun b => b = g ∨ Y = some b) w wr) ∧ Hid (Blk wr pb 95 #[.int .i64 s.id, .int .i64 (d : Nat), .bool x.leaf, .slice x.ae x.ne x.ce, .slice x.ai x.ni x.ci, .slice x.ay x.ny x.cy]) ∧ Hid (LS entE wr g x.ae s.es))
    case atStart => exact ⟨0, oA, oc, o, rfl, Nat.zero_le _, by omega, Lib.hid (by simp), by omega, HBc, HRc, HOB, HFrc, HBpc, HNEc⟩
    case round =>
      obtain ⟨j, oA', oc', o', rfl, hjl, hjg, HO, hol, HBr, HLr, HOr, HFrr, HBpr, HNEr⟩ := hrel
      have hpr := HBpr.out.cell 3
      have hpl := HBpr.out.lt
      have p3 : wr.cell? ⟨pb, 3, none⟩ = some (.slice x.ae ne x.ce) := by rw [hpr, HXE.out]; rfl
      have hgl := HBr.out.lt
      clear hpr
      by_cases hj : j < ne
      · have hji : (j : Int) < (ne : Nat) := by omega
        have hwj : IntKind.i64.wrap ((j : Int) + 1) = (j : Int) + 1 := IntWalk.i64_in _ (by omega)
        have hj2 : j < s.es.length := by rw [← HLN.out]; exact hj
        obtain ⟨bb, oo, hae, hbb, q0, q1⟩ := HNEr.out.ent hj2
        obtain ⟨i1, i2⟩ := HIN.out _ (List.getElem_mem hj2)
        have hy : s.es.take (j + 1) = s.es.take j ++ [s.es[j]] := List.take_succ_eq_append_getElem hj2
        have HTK := Lib.hid hy
        clear hy
        generalize s.es[j] = y at *
        have e1 : Op.bytesLess y.1.toList los.toList = false := by rw [HLS.out]; exact bs_lo i1
        have hx : his.toList = [] ∨ (¬ his.toList = [] ∧ Op.bytesLess y.1.toList his.toList = true) := by
          rw [HHS.out]
          cases hi with
          | none => left; show (⟨#[]⟩ : ByteArray).toList = []; rw [Go.Lib.toList_data]
          | some b' =>
            right
            exact ⟨(Tp.key_ne (HHI.out b' rfl)).2.2, Tp.ltHi_some.1 i2⟩
        rw [hae] at p3
        clear hae
        have hbz : bb < wr.heap.size := by omega
        have q0 : wr.cell? ⟨bb, oo + j * 2, none⟩ = some (.string y.1) := q0
        have q1 : wr.cell? ⟨bb, oo + j * 2 + 1, none⟩ = some (.string y.2) := q1
        have hbA : Below wr.heap.size wr (wr.alloc (.cells #[.string y.1, .string y.2] 38)).drew := ((Below.refl _ wr).alloc (Nat.le_refl _) _).drew
        have hBW := HBr.out.below hbA hgl
        have hxb : Blk (wr.alloc (.cells #[.string y.1, .string y.2] 38)).drew wr.heap.size 38 #[.string y.1, .string y.2] := Blk.new wr _ _
        have hLW := HLr.out.below hbA
        have hown3 := hLW.raw rfl (s := 2) rfl
        have hb3 : g + 1 ≤ (wr.alloc (.cells #[.string y.1, .string y.2] 38)).drew.heap.size := hBW.lt
        have w3c : (wr.alloc (.cells #[.string y.1, .string y.2] 38)).drew.cell? ⟨g, 3, none⟩ = some (.slice oA' o'.length oc') := hBW.cell 3
        have wx0 : (wr.alloc (.cells #[.string y.1, .string y.2] 38)).drew.cell? ⟨wr.heap.size, 0, none⟩ = some (.string y.1) := hxb.cell 0
        have wx1 : (wr.alloc (.cells #[.string y.1, .string y.2] 38)).drew.cell? ⟨wr.heap.size, 1, none⟩ = some (.string y.2) := hxb.cell 1
        have wgl := hBW.lt
        have w3r : wr.cell? ⟨g, 3, none⟩ = some (.slice oA' o'.length oc') := HBr.out.cell 3
        have w3f := HBr.out.frozen 3
        have wxl := hxb.lt
        have HTOLD : Hid (∀ v' w6, w6.ownsRow (g + 1) 38 2 v' (o'.length + 1) (entE.cells o' ++ #[Value.string y.1, Value.string y.2].toList) → (wr.alloc (.cells #[.string y.1, .string y.2] 38)).drew.grownBy w6 (Value.slice oA' o'.length oc').ownBlock → (v'.ownBlock = (Value.slice oA' o'.length oc').ownBlock ∨ ∃ g', v'.ownBlock = some g' ∧ (wr.alloc (.cells #[.string y.1, .string y.2] 38)).drew.heap.size ≤ g') → Below (g + 1) (wr.alloc (.cells #[.string y.1, .string y.2] 38)).drew w6 →
            Hid (Blk (w6.setCell ⟨g, 3, none⟩ v') g 150 #[.slice (some ⟨b, off, none⟩) xs.length lc, .int .i64 ((k : Int) + 1), .int .i64 (d : Nat), v'] ∧ LO entE 38 (w6.setCell ⟨g, 3, none⟩ v') (g + 1) v' (o' ++ [y]) ∧ (∀ b, v'.ownBlock = some b → Y = some b ∨ w.heap.size ≤ b) ∧ Fr (fun b => b = g ∨ Y = some b) w (w6.setCell ⟨g, 3, none⟩ v') ∧ Blk (w6.setCell ⟨g, 3, none⟩ v') pb 95 #[.int .i64 s.id, .int .i64 (d : Nat), .bool x.leaf, .slice x.ae x.ne x.ce, .slice x.ai x.ni x.ci, .slice x.ay x.ny x.cy] ∧ LS entE (w6.setCell ⟨g, 3, none⟩ v') g x.ae s.es) ∧ w6.cell? ⟨g, 3, none⟩ = some (.slice oA' o'.length oc') ∧ w6.frozen? ⟨g, 3, none⟩ = false ∧ g < w6.heap.size) := by
          refine Lib.hid fun v' w6 hown' hg hob hbel => ?_
          have hB6 := hBW.grown hg (fun e => own_blk_ne hown3 hBW (by decide) e.symm)
          have hBpW := HBpr.out.below hbA hpl
          have hBp6 := hBpW.grown hg (fun e => own_blk_ne hown3 hBpW (by decide) e.symm)
          have hf7 : Fr (fun b => b = g) w6 (w6.setCell ⟨g, 3, none⟩ v') := Fr.set_ (S := fun b => b = g) rfl v'
          have hl7 : Below g wr (w6.setCell ⟨g, 3, none⟩ v') := ((hbA.mono (Nat.le_of_lt hgl)).trans (hbel.mono (Nat.le_succ g))).setCell (p := ⟨g, 3, none⟩) (Nat.le_refl g) v'
          have hob2 : ∀ b, v'.ownBlock = some b → Y = some b ∨ w.heap.size ≤ b := fun b e => by
            rcases hob with h1 | ⟨g', h1, h2⟩
            · exact HOr.out b (by rw [← h1]; exact e)
            · rw [h1] at e; injection e with e; subst e
              exact .inr (Nat.le_trans HFrr.out.size (Nat.le_trans hbA.size h2))
          refine ⟨Lib.hid ⟨hB6.set_ 3 v', LO.fr (LO.snoc rfl rfl rfl hown') hf7 (fun b e => by omega), hob2, ?_, hf7.blk hBp6 hpg2, HNEr.out.below hl7⟩, hB6.cell 3, hB6.frozen 3, hB6.lt⟩
          refine ((HFrr.out.trans (.of_below hbA)).go (Fr.of_grown hg) (fun b e => ?_)).trans (hf7.more fun _ => .inl)
          rcases HOr.out b e with h1 | h1
          · exact .inl (.inr h1)
          · exact .inr h1
        clear hBW hxb hLW hbA
        rcases hx with f1 | ⟨f1, f2⟩
        · have f3 : his.toList.isEmpty = true := by simpa using f1
          go_wp2
          go_region_law (first | (refine step_app2 rfl (.tmp 109) (.tmp 111) 32 rfl eiEnt Tryz.underlying32 rfl (by decide) rfl hown3 rfl (by simp) rfl (by simp [Value.oneCell']) (by unfold maxLen; omega) (by omega) hb3 ?_; intro v' w6 hown' hgrow hbel hob; obtain ⟨HT, y1, y2, y3⟩ := HTOLD.out v' w6 hown' hgrow hob hbel; obtain ⟨A6, c6, rfl⟩ := own_form hown'))
          all_goals
            have HF := Lib.hid HT.out
            clear HT HTOLD hown' hgrow hbel hob y1 y2 y3 hown3
            go_wp2
            go_roundg (ne - (j + 1))
            case measure => omega
            case rel =>
              have hlen : (o' ++ [y]).length = o'.length + 1 := by simp
              obtain ⟨z1, z2, z3, z4, z5, z6⟩ := HF.out
              exact ⟨j + 1, A6, c6, o' ++ [y], by go_num, by omega, Nat.le_refl _, Lib.hid (by rw [HTK.out, ← List.append_assoc, ← HO.out]), by omega, Lib.hid (by rw [hlen]; exact z1), Lib.hid (by rw [hlen]; exact z2), Lib.hid (by rw [hlen]; exact z3), Lib.hid z4, Lib.hid z5, Lib.hid z6⟩
        · have f3 : his.toList.isEmpty = false := by simpa using f1
          go_wp2
          go_region_law (first | (refine step_app2 rfl (.tmp 109) (.tmp 111) 32 rfl eiEnt Tryz.underlying32 rfl (by decide) rfl hown3 rfl (by simp) rfl (by simp [Value.oneCell']) (by unfold maxLen; omega) (by omega) hb3 ?_; intro v' w6 hown' hgrow hbel hob; obtain ⟨HT, y1, y2, y3⟩ := HTOLD.out v' w6 hown' hgrow hob hbel; obtain ⟨A6, c6, rfl⟩ := own_form hown'))
          all_goals
            have HF := Lib.hid HT.out
            clear HT HTOLD hown' hgrow hbel hob y1 y2 y3 hown3
            go_wp2
            go_roundg (ne - (j + 1))
            case measure => omega
            case rel =>
              have hlen : (o' ++ [y]).length = o'.length + 1 := by simp
              obtain ⟨z1, z2, z3, z4, z5, z6⟩ := HF.out
              exact ⟨j + 1, A6, c6, o' ++ [y], by go_num, by omega, Nat.le_refl _, Lib.hid (by rw [HTK.out, ← List.append_assoc, ← HO.out]), by omega, Lib.hid (by rw [hlen]; exact z1), Lib.hid (by rw [hlen]; exact z2), Lib.hid (by rw [hlen]; exact z3), Lib.hid z4, Lib.hid z5, Lib.hid z6⟩
      · obtain rfl : j = ne := by omega
        have hji : ¬ (j : Int) < (j : Nat) := by omega
        have h0i : (0 : Int) < (j : Nat) := by omega
        have g2 : wr.cell? ⟨g, 2, none⟩ = some (.int .i64 (d : Nat)) := HBr.out.cell 2
        have hoo : o' = o ++ s.es := by rw [HO.out, HLN.out, List.take_length]
        have HEND := Lib.hid (show RpEnd g (some ⟨b, off, none⟩) xs.length lc kE dE (o ++ s.es) Y w (.returned (.bool true)) wr from by
          refine ⟨rfl, ⟨_, ⟨oA', oc', ?_, ?_, rfl⟩, ?_⟩, HFrr.out⟩
          · have e1 : kE = (k : Int) + 1 := by rw [HKE.out, HID.out]; omega
            have e2 : dE = (d : Nat) := by rw [HDE.out]; rfl
            rw [e1, e2, ← hoo]
            exact HBr.out
          · rw [← hoo]; exact HLr.out
          · rw [← hoo]; exact HOr.out)
        clear hoo HO hol HLr HOr HFrr HNEr HBr HBpr
        go_wp2
        go_ret
        exact HEND.out
end Go.Proofs.YtpfplojkiloldaaGreatDoor
