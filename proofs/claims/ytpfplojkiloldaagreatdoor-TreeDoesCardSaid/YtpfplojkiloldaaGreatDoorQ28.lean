/- The walks of codec's Left, End; of page.Open. page.Open at what a page is, and at noughts. The walks of pagefile's page, Write, Read. The walk of pagefile.Read. The walk of alloc's Get. The walks of disk's done, settle, Sync. A disk within bounds on how much was asked of it. The walk of chain.follow; what a file's words hang on. The walk of alloc's Flush. A disk whose power does not go, and what its pages are: plain. A new disk, a new file. What Flush makes of a disk's pages: plain. A change's map and the row of the pages taken: what AllocKeeps's rounds do. A change of fresh pages alone, as the tree sees it: what is kept, Fresh. The walks of cowtree's load, save. The walk of cowtree's save. Plain: how many pages a node becomes; bounds of what the tree's walks carry. -/
import Derived.RangeFuncOwn
import Derived.BigRegion
import Derived.Deep.RegionWith
import Derived.Test.YtpfplojkiloldaaGreatDoorQ00
import Derived.Test.YtpfplojkiloldaaGreatDoorQ04
import Derived.Test.YtpfplojkiloldaaGreatDoorQ09
import Derived.Test.YtpfplojkiloldaaGreatDoorQ13
import Derived.Test.YtpfplojkiloldaaGreatDoorQ22
import Derived.Test.YtpfplojkiloldaaGreatDoorQ24
import Derived.Test.YtpfplojkiloldaaGreatDoorQ27
namespace Go.Proofs.YtpfplojkiloldaaGreatDoor
open Go.RowKit Go.Shelf
end Go.Proofs.YtpfplojkiloldaaGreatDoor
namespace Go.Proofs.YtpfplojkiloldaaGreatDoor
open Go.RowKit Go.Shelf
def zeroL : List UInt8 := List.replicate 256 0
end Go.Proofs.YtpfplojkiloldaaGreatDoor
namespace Go.Proofs.YtpfplojkiloldaaGreatDoor
open Go.RowKit Go.Shelf
def noPage (n : Nat) (id : Int) : Bool := decide (id < 2) || decide ((n : Int) ≤ id)
end Go.Proofs.YtpfplojkiloldaaGreatDoor
namespace Go.Proofs.YtpfplojkiloldaaGreatDoor
open Go.RowKit Go.Shelf
def frB (n : Nat) (down : Bool) (id : Int) (kind : Nat) (o : Option (Nat × Bs)) : Bs × Int :=
  if noPage n id then ([], 40) else if down then ([], 4) else match o with
  | none => ([], 3)
  | some (k, b) => if k = kind then (b, 0) else ([], 3)
theorem Kept.grown {w w' : World} {d : Nat} {cs : Array Value} (hd : Blk w d 110 cs) (hg : w.grownBy w' (some d)) : Kept w w' := fun _ _ _ hb h1 _ => hb.grown hg (fun e => hb.ne_ hd h1 (Option.some.inj e))
end Go.Proofs.YtpfplojkiloldaaGreatDoor
namespace Go.Proofs.YtpfplojkiloldaaGreatDoor
open Go.RowKit Go.Shelf
set_option maxRecDepth 100000 in
set_option maxHeartbeats 800000 in
theorem tget_fresh (t m f n k : Nat) (free : List Run) (pages : Int) (D : DataW Value) (id q kind : Int) (s : ByteArray) (hid : (Lit.int .i64 id).wf = true) (hh : Maps.has D (.int .i64 id) = true) (hd : ∀ z, D.atKey (.int .i64 id) z = .held (content true q s)) (w : World) (h : Txn w t m f n free pages k D) :
    Calls Tryz.prog 79 #[.pointer (some ⟨t, 0, none⟩), .int .i64 id, .int .u8 kind] w fun e w' => e = .returned (if q = kind then .tuple #[.string s, .int .i64 0] else .tuple #[.string ⟨#[]⟩, .int .i64 3]) ∧ Below w.heap.size w w' := by
  obtain ⟨_, ⟨v, h2, h3⟩, h4⟩ := h
  have hlt := h2.lt
  have hc := h2.cell 3
  obtain ⟨u, ps, hrun, hu⟩ := h4.look_ok keyedI Tryz.underlying122 (Tryz.zeroValue130 w) (heldR_mk _ _ _) (keyI hid)
  rw [hd, hh] at *
  obtain ⟨b, q', s', rfl, hz⟩ := heldR_inv hu
  have hz := (Prod.mk.inj hz).1
  injection hz with hz
  rw [← hz] at hrun
  unfold content at hrun
  clear hu hz h4 hd hh
  by_cases e : q = kind
  · subst e
    rw [if_pos rfl]
    go_enter Tryz.func79, Tryz.ntmps79
    go_wp2
    go_ret2
    exact ⟨rfl, (Below.refl _ w).alloc (Nat.le_refl _) _⟩
  · rw [if_neg e]
    have hq : (q != kind) = true := by simpa using e
    go_enter Tryz.func79, Tryz.ntmps79
    go_wp2
    go_ret2
    exact ⟨rfl, (Below.refl _ w).alloc (Nat.le_refl _) _⟩
end Go.Proofs.YtpfplojkiloldaaGreatDoor
namespace Go.Proofs.YtpfplojkiloldaaGreatDoor
open Go.RowKit Go.Shelf
end Go.Proofs.YtpfplojkiloldaaGreatDoor
namespace Go.Proofs.YtpfplojkiloldaaGreatDoor
open Go.RowKit Go.Shelf
end Go.Proofs.YtpfplojkiloldaaGreatDoor
namespace Go.Proofs.YtpfplojkiloldaaGreatDoor
open Go.RowKit Go.Shelf
theorem Kept.far {w w2 w3 : World} {g : Nat} (h : Kept w w2) (hg : w2.grownBy w3 (some g)) (hge : w.heap.size ≤ g) : Kept w w3 := fun i t cs hb h1 h2 =>
  (h i t cs hb h1 h2).grown hg (fun e => by have := hb.lt; have := Option.some.inj e; omega)
end Go.Proofs.YtpfplojkiloldaaGreatDoor
namespace Go.Proofs.YtpfplojkiloldaaGreatDoor
open Go.RowKit Go.Shelf Go.Maps
section
variable {w w' : World} {B f d k kf t m m0 n : Nat} {Dd : Dk} {free : List Run} {pages : Int} {D : DataW Value}
end
end Go.Proofs.YtpfplojkiloldaaGreatDoor
namespace Go.Proofs.YtpfplojkiloldaaGreatDoor
open Go.RowKit Go.Shelf
end Go.Proofs.YtpfplojkiloldaaGreatDoor
namespace Go.Proofs.YtpfplojkiloldaaGreatDoor
open Go.RowKit Go.Shelf
def fresh (n : Nat) : Dk := { sure := List.replicate n zeroL, now := fun _ => none, pend := [], left := -1, down := false, reads := 0, writes := 0 }
end Go.Proofs.YtpfplojkiloldaaGreatDoor
namespace Go.Proofs.YtpfplojkiloldaaGreatDoor
open Go.RowKit Go.Shelf
end Go.Proofs.YtpfplojkiloldaaGreatDoor
namespace Go.Proofs.YtpfplojkiloldaaGreatDoor
open Go.RowKit Go.Shelf
structure KeysAre (D : DataW Value) (mine : List Int) : Prop where
  tidy : Maps.Tidy D
  has : ∀ x, Maps.has D (.int .i64 x) = decide (x ∈ mine)
  size : Maps.size D = mine.length
theorem KeysAre.nil_ : KeysAre (.map []) [] := ⟨Maps.tidy_empty, fun _ => rfl, rfl⟩
theorem KeysAre.put_ {D : DataW Value} {mine : List Int} (h : KeysAre D mine) {id : Int} (hid : id ∉ mine) (v : DataW Value) : KeysAre (D.put (.int .i64 id) v) (mine ++ [id]) := by
  refine ⟨h.tidy.put (by trivial) v, fun x => ?_, ?_⟩
  · rw [has_putI h.tidy.isMap, h.has]
    rw [Bool.eq_iff_iff]
    simp
    exact ⟨fun h => h.symm, fun h => h.symm⟩
  · rw [Maps.size_put h.tidy, h.has, decide_eq_false hid, if_neg (by simp), h.size]; simp
theorem filter_len : ∀ {l : List Int} {id : Int}, l.Nodup → id ∈ l → (l.filter fun x => x != id).length + 1 = l.length
  | [], _, _, h => by cases h
  | y :: l, id, hn, h => by
    obtain ⟨h1, h2⟩ := List.nodup_cons.1 hn
    rw [List.filter_cons]
    by_cases e : y = id
    · subst e
      rw [if_neg (by simp), Rp.filter_out h1, List.length_cons]
    · rw [if_pos (by simpa using e), List.length_cons, List.length_cons, filter_len h2 (by rcases List.mem_cons.1 h with h | h; exact absurd h.symm e; exact h)]
theorem KeysAre.drop_ {D : DataW Value} {mine : List Int} (h : KeysAre D mine) (hn : mine.Nodup) (id : Int) : KeysAre (dropD D id) (mine.filter fun x => x != id) := by
  unfold dropD
  rw [h.has]
  by_cases hid : id ∈ mine
  · rw [decide_eq_true hid, if_pos rfl]
    refine ⟨h.tidy.del _, fun x => ?_, ?_⟩
    · rw [has_delI, h.has, Bool.eq_iff_iff]
      simp [List.mem_filter]
      exact ⟨fun h => ⟨h.2, h.1⟩, fun h => ⟨h.2, h.1⟩⟩
    · have h1 := Maps.size_del (k := .int .i64 id) h.tidy
      rw [h.has, decide_eq_true hid, if_pos rfl, h.size] at h1
      have h2 := filter_len hn hid
      omega
  · rw [decide_eq_false hid, Rp.filter_out hid]
    exact h
theorem ap_drop {room p : Int} {fr used : List Run} {mine : List Int} {D : DataW Value} (h : Rp.Ap room fr used mine p) (hk : KeysAre D mine) (id : Int) : Rp.Ap room (dropF fr D id) used (mine.filter fun x => x != id) p := by
  unfold dropF
  rw [hk.has]
  by_cases hid : id ∈ mine
  · rw [decide_eq_true hid, if_pos rfl]; exact h.dropped hid
  · rw [decide_eq_false hid, Rp.filter_out hid]; exact h
theorem KeysAre.reput {D : DataW Value} {mine : List Int} (h : KeysAre D mine) {id : Int} (hid : id ∈ mine) (v : DataW Value) : KeysAre (D.put (.int .i64 id) v) mine := by
  refine ⟨h.tidy.put (by trivial) v, fun x => ?_, ?_⟩
  · rw [has_putI h.tidy.isMap, h.has]
    rw [Bool.eq_iff_iff]
    simp
    rintro rfl
    exact hid
  · rw [Maps.size_put h.tidy, h.has, decide_eq_true hid, if_pos rfl, h.size]
end Go.Proofs.YtpfplojkiloldaaGreatDoor
namespace Go.Proofs.YtpfplojkiloldaaGreatDoor
open Go.RowKit Go.Shelf
section
variable {w w' : World} {t m f n k : Nat} {free : List Run} {pages : Int} {D : DataW Value} {S' : Nat → Prop}
theorem Txn.fr (h : Txn w t m f n free pages k D) (hf : Fr S' w w') (hfar : ∀ b, S' b → ∀ o, w.heap[b]? = some o → Far o) : Txn w' t m f n free pages k D := by
  have key : ∀ b o, w.heap[b]? = some o → ¬ Far o → w'.heap[b]? = some o := fun b o ho hn => (hf.block b (Array.getElem?_eq_some_iff.1 ho).1 (fun a => hn (hfar b a o ho))).trans ho
  obtain ⟨⟨d, h1, cs, A, c, h2, h3⟩, ⟨v, h4, h5⟩, es, ck, h6, h7⟩ := h
  refine ⟨⟨d, key _ _ h1 (fun a => a.2.2.1 _ rfl), cs, A, c, key _ _ h2 (fun a => a.2.2.2.1 _ rfl), h3⟩, ⟨v, key _ _ h4 (fun a => a.2.1 _ rfl), ?_⟩, es, ck, key _ _ h6 (fun a => a.2.2.2.2 _ _ rfl), h7⟩
  rcases h5 with ⟨e1, e2 | ⟨g, cap, cur, hv, hb, hh, hr⟩⟩
  · exact ⟨e1, .inl e2⟩
  · exact ⟨e1, .inr ⟨g, cap, cur, hv, hb, key _ _ hh (fun a => a.1 _ rfl), hr⟩⟩
theorem Txn.tight (h : Txn w t m f n free pages k D) : Txn w t m f n free pages (Maps.size D) D := by
  obtain ⟨h1, h2, es, ck, h6, h7, h8, h9⟩ := h
  refine ⟨h1, h2, es, ck, h6, h7, ?_, h9⟩
  rw [h9]
  exact Nat.le_of_eq (length_read es).symm
end
structure TMf (B t m f n : Nat) (r : Nat) (σ : Tp.Pst) (w : World) : Prop where
  low : t < B ∧ m < B ∧ B ≤ w.heap.size
  ap : Rp.Ap (max (n : Int) 2) σ.free [] σ.mine σ.pages
  fit : ∀ id, id ∈ σ.mine → ∀ x, σ.nd id = some x → Nd.fits x = true
  txn : ∃ D, Txn w t m f n σ.free σ.pages σ.mine.length D ∧ KeysAre D σ.mine ∧ ∀ id, id ∈ σ.mine → ∀ x, σ.nd id = some x → ∀ z, D.atKey (.int .i64 id) z = .held (content true (if x.leaf then 1 else 2) (Nd.str (Nd.enc x)))
section
variable {B t m f n r r' : Nat} {σ : Tp.Pst} {w w' : World} {S' : Nat → Prop}
theorem TMf.up (h : TMf B t m f n r σ w) (hf : Fr S' w w') (hS : FarS B w S') : TMf B t m f n r σ w' := by
  obtain ⟨h1, h2, h3, D, h4, h5⟩ := h
  exact ⟨⟨h1.1, h1.2.1, Nat.le_trans h1.2.2 hf.size⟩, h2, h3, D, h4.fr hf (fun b a => (hS b a).2), h5⟩
theorem TMf.less (h : TMf B t m f n r σ w) : TMf B t m f n r' σ w := ⟨h.low, h.ap, h.fit, h.txn⟩
theorem view_none {id : Int} {x : Nd.Node} (hv : σ.view (fun _ => none) id = some x) : id ∈ σ.mine ∧ σ.nd id = some x := by
  unfold Tp.Pst.view at hv
  split at hv
  · rename_i hm; exact ⟨hm, hv⟩
  · split at hv <;> cases hv
theorem TMf.idok (h : TMf B t m f n r σ w) {id : Int} (hm : id ∈ σ.mine) : IdOk id := by
  have h1 := h.ap.hm id hm
  have h2 := h.ap.pg
  unfold IdOk; omega
theorem TMf.fresh (h : TMf B t m f n r σ w) (id : Int) (hid : IdOk id) :
    Calls Tryz.prog 37 #[.pointer (some ⟨t, 0, none⟩), .int .i64 id] w fun e w' => e = .returned (.bool (decide (id ∈ σ.mine))) ∧ TMf B t m f n r σ w' ∧ Fr (fun k => k = t ∨ k = m) w w' := by
  obtain ⟨D, h4, h5, h6⟩ := h.txn
  refine (tfresh_any t m f n _ _ _ D id hid.wf w h4).mono ?_
  rintro e w1 ⟨rfl, hb⟩
  exact ⟨by rw [h5.has], h.up (.of_below hb) (fun k (a : False) => a.elim), .of_below hb⟩
theorem canon_len : ∀ (l : List Run) (lo p : Int), Rp.Canon lo l → (∀ x, Rp.Mem l x → x < p) → 2 * (l.length : Int) ≤ max 0 (p - lo + 1)
  | [], lo, p, _, _ => by simp; omega
  | a :: l, lo, p, h, hm => by
    obtain ⟨h1, h2, h3, h4⟩ := h
    have ih := canon_len l (a.2 + 2) p h4 (fun x ⟨b, hb, hx⟩ => hm x ⟨b, List.mem_cons_of_mem _ hb, hx⟩)
    have := hm a.2 ⟨a, List.mem_cons_self, h2, Int.le_refl _⟩
    rw [List.length_cons]
    omega
theorem ap_small {room p : Int} {fr used : List Run} {mine : List Int} (h : Rp.Ap room fr used mine p) : fr.length ≤ 80000 ∧ mine.length ≤ 100000 := by
  have hp := h.pg
  have h1 := canon_len fr 0 p h.cf (fun x hx => (h.hf x hx).2)
  refine ⟨by omega, ?_⟩
  have hsub : mine ⊆ (List.range 100000).map (fun i : Nat => (2 : Int) + (i : Int)) := fun x hx => by
    have := h.hm x hx
    exact List.mem_map.2 ⟨(x - 2).toNat, List.mem_range.2 (by omega), by omega⟩
  have := List.Nodup.length_le_of_subset h.nd hsub
  simpa using this
theorem Touch.fr {t m : Nat} {w w' : World} (h : Touch t m w w') : Fr (fun k => k = t ∨ k = m) w w' := ⟨h.os, h.tape, h.output, h.size, fun k hk a => h.block k hk (fun e => a (.inl e)) (fun e => a (.inr e))⟩
theorem TMf.get (h : TMf B t m f n r σ w) {id : Int} {x : Nd.Node} (hv : σ.view (fun _ => none) id = some x) (k : Nat) (h1 : x.leaf = true → k = 1) (h2 : x.leaf = false → k = 2) :
    Calls Tryz.prog 79 #[.pointer (some ⟨t, 0, none⟩), .int .i64 id, .int .u8 k] w fun e w' => e = .returned (.tuple #[.string (Nd.str (Nd.enc x)), .int .i64 0]) ∧ TMf B t m f n r' σ w' ∧ Fr (fun k => k = t ∨ k = m) w w' := by
  obtain ⟨hm, hx⟩ := view_none hv
  obtain ⟨D, h4, h5, h6⟩ := h.txn
  have hk : (if x.leaf then 1 else 2 : Int) = (k : Int) := by
    cases hl : x.leaf with
    | true => rw [h1 hl]; rfl
    | false => rw [h2 hl]; rfl
  refine (tget_fresh t m f n _ _ _ D id _ k _ (h.idok hm).wf (by rw [h5.has]; exact decide_eq_true hm) (h6 id hm x hx) w h4).mono ?_
  rintro e w1 ⟨rfl, hb⟩
  rw [if_pos hk]
  exact ⟨rfl, (h.up (.of_below hb) (fun k (a : False) => a.elim)).less, .of_below hb⟩
theorem TMf.getN (h : TMf B t m f n r σ w) {id : Int} {x : Nd.Node} (hv : σ.view (fun _ => none) id = some x) (h2 : x.leaf = false) :
    Calls Tryz.prog 79 #[.pointer (some ⟨t, 0, none⟩), .int .i64 id, .int .u8 1] w fun e w' => e = .returned (.tuple #[.string ⟨#[]⟩, .int .i64 3]) ∧ TMf B t m f n r' σ w' ∧ Fr (fun k => k = t ∨ k = m) w w' := by
  obtain ⟨hm, hx⟩ := view_none hv
  obtain ⟨D, h4, h5, h6⟩ := h.txn
  refine (tget_fresh t m f n _ _ _ D id _ 1 _ (h.idok hm).wf (by rw [h5.has]; exact decide_eq_true hm) (h6 id hm x hx) w h4).mono ?_
  rintro e w1 ⟨rfl, hb⟩
  rw [h2, if_neg (by decide)]
  exact ⟨rfl, (h.up (.of_below hb) (fun k (a : False) => a.elim)).less, .of_below hb⟩
theorem TMf.put (h : TMf B t m f n r σ w) {id : Int} {x : Nd.Node} (hm : id ∈ σ.mine) (hfit : Nd.fits x = true) (k : Nat) (h1 : x.leaf = true → k = 1) (h2 : x.leaf = false → k = 2) :
    Calls Tryz.prog 152 #[.pointer (some ⟨t, 0, none⟩), .int .i64 id, .int .u8 k, .string (Nd.str (Nd.enc x))] w fun e w' => e = .returned (.int .i64 0) ∧ TMf B t m f n r (σ.put id x) w' ∧ Fr (fun k => k = t ∨ k = m) w w' := by
  obtain ⟨D, h4, h5, h6⟩ := h.txn
  have hk : (k : Int) = (if x.leaf then 1 else 2 : Int) := by
    cases hl : x.leaf with
    | true => rw [h1 hl]; rfl
    | false => rw [h2 hl]; rfl
  have hsm := ap_small h.ap
  have hs : (Nd.str (Nd.enc x)).size ≤ 240 := by
    have hr := Tp.fits_iff.1 hfit
    have := Nd.enc_length hr.1
    have e : (Nd.str (Nd.enc x)).size = (Nd.enc x).length := by simp [Nd.str, ByteArray.size]
    have := hr.2
    omega
  refine (tput_yes t m f n _ _ _ D id k _ (h.idok hm).wf (by unfold maxLen; omega) (by rw [h5.has]; exact decide_eq_true hm) hs w h4).mono ?_
  rintro e w1 ⟨rfl, ht, hT⟩
  have hk5 := h5.reput hm (.held (content true k (Nd.str (Nd.enc x))))
  have hT2 := hT.tight
  rw [hk5.size] at hT2
  refine ⟨rfl, ⟨⟨h.low.1, h.low.2.1, Nat.le_trans h.low.2.2 ht.size⟩, h.ap, fun i hi y hy => ?_, _, hT2, hk5, fun i hi y hy z => ?_⟩, ht.fr⟩
  · unfold Tp.Pst.put at hy
    simp only at hy
    split at hy
    · injection hy with hy; subst hy; exact hfit
    · exact h.fit i hi y hy
  · unfold Tp.Pst.put at hy
    simp only at hy
    split at hy
    · rename_i e
      injection hy with hy
      subst hy e
      rw [Maps.atKey_put_same h5.tidy.isMap (by trivial), hk]
    · rename_i e
      rw [Maps.atKey_put_other (fun a => by injection a with _ a; exact e a)]
      exact h6 i hi y hy z
theorem TMf.drop (h : TMf B t m f n r σ w) (id : Int) (hid : IdOk id) :
    Calls Tryz.prog 109 #[.pointer (some ⟨t, 0, none⟩), .int .i64 id] w fun e w' => e = .returned (.tuple #[]) ∧ TMf B t m f n r (Tp.pDrop σ id) w' ∧ Fr (fun k => k = t ∨ k = m) w w' := by
  obtain ⟨D, h4, h5, h6⟩ := h.txn
  have hsm := ap_small h.ap
  refine (tdrop_any t m f n _ _ _ D id hid.wf (by omega) w h4).mono ?_
  rintro e w1 ⟨rfl, ht, hT⟩
  have hk5 := h5.drop_ h.ap.nd id
  have hap := ap_drop h.ap h5 id
  have hT2 := hT.tight
  rw [hk5.size] at hT2
  have hfr : (Tp.pDrop σ id).free = dropF σ.free D id := by
    unfold Tp.pDrop dropF
    simp only [h5.has, decide_eq_true_eq]
  refine ⟨rfl, ⟨⟨h.low.1, h.low.2.1, Nat.le_trans h.low.2.2 ht.size⟩, by rw [hfr]; exact hap, fun i hi y hy => h.fit i (List.mem_filter.1 hi).1 y hy, _, by rw [hfr]; exact hT2, hk5, fun i hi y hy z => ?_⟩, ht.fr⟩
  have hi2 := List.mem_filter.1 hi
  have hne : i ≠ id := by simpa using hi2.2
  unfold dropD
  split
  · rw [Maps.atKey_del_other (fun a => by injection a with _ a; exact hne a)]
    exact h6 i hi2.1 y hy z
  · exact h6 i hi2.1 y hy z
theorem allocV_eq (free : List Run) (pages room : Int) : allocV free pages room = Tp.allocV free pages room := rfl
theorem TMf.alloc (h : TMf B t m f n r σ w) {σ' : Tp.Pst} {id : Int} (ha : Tp.pAlloc (max (n : Int) 2) σ = some (id, σ')) :
    Calls Tryz.prog 151 #[.pointer (some ⟨t, 0, none⟩)] w fun e w' => e = .returned (.tuple #[.int .i64 id, .int .i64 0]) ∧ IdOk id ∧ id ∈ σ'.mine ∧ TMf B t m f n r σ' w' ∧ Fr (fun k => k = t ∨ k = m) w w' := by
  obtain ⟨D, h4, h5, h6⟩ := h.txn
  have hsm := ap_small h.ap
  have hp := h.ap.pg
  have hA := talloc_any t m f n σ.mine.length σ.free σ.pages D hsm.1 (by unfold maxLen; omega) (by omega) w h4
  rw [allocV_eq] at hA
  unfold Tp.pAlloc at ha
  cases hv : Tp.allocV σ.free σ.pages (max (n : Int) 2) with
  | none => rw [hv] at ha; cases ha
  | some o =>
    obtain ⟨id', fr, p⟩ := o
    rw [hv] at ha hA
    simp only [Option.some.injEq, Prod.mk.injEq] at ha
    obtain ⟨rfl, rfl⟩ := ha
    have hstep : id' ∉ σ.mine ∧ IdOk id' ∧ Rp.Ap (max (n : Int) 2) fr [] (σ.mine ++ [id']) p := by
      unfold Tp.allocV at hv
      cases hl : Rp.least σ.free with
      | some j =>
        rw [hl] at hv
        injection hv with hv
        injection hv with e1 hv
        injection hv with e2 e3
        subst e1 e2 e3
        obtain ⟨g1, g2, g3, g4, g5⟩ := h.ap.free hl
        exact ⟨g1, by unfold IdOk; omega, g5⟩
      | none =>
        rw [hl] at hv
        simp only at hv
        split at hv
        · cases hv
        · injection hv with hv
          injection hv with e1 hv
          injection hv with e2 e3
          subst e1 e2 e3
          obtain ⟨g1, g2, g3⟩ := h.ap.fresh (by omega)
          exact ⟨g1, by unfold IdOk; omega, g3⟩
    obtain ⟨g1, g2, g3⟩ := hstep
    have hk5 := h5.put_ g1 (.held (content false 0 ⟨#[]⟩))
    refine hA.mono ?_
    rintro e w1 ⟨ht, rfl, hT⟩
    have hT2 := hT.tight
    rw [hk5.size] at hT2
    refine ⟨rfl, g2, List.mem_append_right _ (List.mem_singleton.2 rfl), ⟨⟨h.low.1, h.low.2.1, Nat.le_trans h.low.2.2 ht.size⟩, g3, fun i hi y hy => ?_, _, hT2, hk5, fun i hi y hy z => ?_⟩, ht.fr⟩
    · simp only at hy
      split at hy
      · cases hy
      · rename_i e
        rcases List.mem_append.1 hi with hi | hi
        · exact h.fit i hi y hy
        · exact absurd (List.mem_singleton.1 hi) e
    · simp only at hy
      split at hy
      · cases hy
      · rename_i e
        rw [Maps.atKey_put_other (fun a => by injection a with _ a; exact e a)]
        rcases List.mem_append.1 hi with hi | hi
        · exact h6 i hi y hy z
        · exact absurd (List.mem_singleton.1 hi) e
theorem TMf.full (h : TMf B t m f n r σ w) (ha : Tp.pAlloc (max (n : Int) 2) σ = none) :
    Calls Tryz.prog 151 #[.pointer (some ⟨t, 0, none⟩)] w fun e w' => e = .returned (.tuple #[.int .i64 0, .int .i64 2]) ∧ TMf B t m f n r σ w' ∧ Fr (fun k => k = t ∨ k = m) w w' := by
  obtain ⟨D, h4, h5, h6⟩ := h.txn
  have hsm := ap_small h.ap
  have hp := h.ap.pg
  have hA := talloc_any t m f n σ.mine.length σ.free σ.pages D hsm.1 (by unfold maxLen; omega) (by omega) w h4
  rw [allocV_eq] at hA
  unfold Tp.pAlloc at ha
  cases hv : Tp.allocV σ.free σ.pages (max (n : Int) 2) with
  | some o => rw [hv] at ha; cases ha
  | none =>
    rw [hv] at hA
    refine hA.mono ?_
    rintro e w1 ⟨ht, rfl, hT⟩
    exact ⟨rfl, ⟨⟨h.low.1, h.low.2.1, Nat.le_trans h.low.2.2 ht.size⟩, h.ap, h.fit, D, hT, h5, h6⟩, ht.fr⟩
end
theorem mach_fresh {B t m : Nat} (ht : t < B) (hm : m < B) (f n : Nat) : Mach (fun k => k = t ∨ k = m) B t (max (n : Int) 2) (fun _ => none) (TMf B t m f n) where
  low := fun k a => by rcases a with rfl | rfl <;> assumption
  size := fun h => h.low.2.2
  up := fun h hf hS => h.up hf hS
  less := fun h _ => h.less
  ht := fun h hv => ⟨h.fit _ (view_none hv).1 _ (view_none hv).2, h.idok (view_none hv).1⟩
  get := fun h hv k h1 h2 => h.get hv k h1 h2
  getN := fun h hv h2 => h.getN hv h2
  fresh := fun id h hid => h.fresh id hid
  alloc := fun h ha => h.alloc ha
  full := fun h ha => h.full ha
  put := fun h _ hm hfit k h1 h2 => h.put hm hfit k h1 h2
  drop := fun id h hid => h.drop id hid
end Go.Proofs.YtpfplojkiloldaaGreatDoor
namespace Go.Proofs.YtpfplojkiloldaaGreatDoor
open Go.RowKit Go.Shelf
section
variable {S : Nat → Prop} {B t : Nat} {room : Int} {disk : Tp.Disk} {TM : Nat → Tp.Pst → World → Prop}
structure On (S : Nat → Prop) (B t u : Nat) (TM : Nat → Tp.Pst → World → Prop) (root e : Int) (r : Nat) (σ : Tp.Pst) (w : World) : Prop where
  tm : TM r σ w
  self : Blk w u 84 (TreeV t root e)
  hu : B ≤ u
section
variable {root e : Int} {r : Nat} {σ σ' : Tp.Pst} {w w' : World} {u : Nat}
theorem On.below (M : Mach S B t room disk TM) (h : On S B t u TM root e r σ w) (hb : Below w.heap.size w w') : On S B t u TM root e r σ w' := ⟨M.below h.tm hb, h.self.below hb h.self.lt, h.hu⟩
theorem On.step (M : Mach S B t room disk TM) (h : On S B t u TM root e r σ w) {r' : Nat} (ht : TM r' σ' w') (hf : Fr S w w') : On S B t u TM root e r' σ' w' := ⟨ht, hf.blk h.self (fun a => by have := M.low u a; have := h.hu; omega), h.hu⟩
theorem On.own (M : Mach S B t room disk TM) (h : On S B t u TM root e r σ w) {g : Nat} {ty : TypeId} {cs : Array Value} (hf : Fr (fun k => k = g) w w') (hB : Blk w g ty cs) (hg : B ≤ g) (h0 : g ≠ u) (h1 : ty ≠ 120) (h2 : ty ≠ 124) (h3 : ty ≠ 99) (h4 : ty ≠ 110) : On S B t u TM root e r σ w' :=
  ⟨M.own h.tm hf hB hg h1 h2 h3 h4, hf.blk h.self (fun a => h0 a.symm), h.hu⟩
theorem On.less (M : Mach S B t room disk TM) (h : On S B t u TM root e r σ w) {r' : Nat} (hr : r' ≤ r) : On S B t u TM root e r' σ w := ⟨M.less h.tm hr, h.self, h.hu⟩
end
theorem Mach.far (M : Mach S B t room disk TM) {g : Nat} (hg : B ≤ g) : ¬ S g := fun a => by have := M.low g a; omega
def LoadEnd (S : Nat → Prop) (B t u : Nat) (TM : Nat → Tp.Pst → World → Prop) (root er : Int) (r : Nat) (σ : Tp.Pst) (n : Nd.Node) (w : World) (e : Ending) (w' : World) : Prop :=
  ∃ v, e = .returned (.tuple #[v, .int .i64 0]) ∧ NF w.heap.size w' v n ∧ On S B t u TM root er r σ w' ∧ Fr S w w'
set_option maxRecDepth 100000 in
set_option maxHeartbeats 1000000 in
theorem load_any (M : Mach S B t room disk TM) (u : Nat) (root er : Int) (r : Nat) (σ : Tp.Pst) (id : Int) (d : Nat) (n : Nd.Node) (hv : σ.view disk id = some n) (hd : d < 24) (w : World) (h : On S B t u TM root er (r + 2) σ w) :
    Calls Tryz.prog 49 #[.pointer (some ⟨u, 0, none⟩), .int .i64 id, .int .i64 (d : Nat)] w (LoadEnd S B t u TM root er r σ n w) := by
  obtain ⟨hfit, hidok⟩ := M.ht h.tm hv
  have hb1 := (Below.refl w.heap.size w).alloc (Nat.le_refl _) (.cells #[.bool false, .slice none 0 0, .slice none 0 0, .slice none 0 0] 58)
  have h1 := h.below M hb1
  have hBg := Blk.new w 58 #[.bool false, .slice none 0 0, .slice none 0 0, .slice none 0 0]
  have hsz := M.size h.tm
  have hd1 : ¬ 24 ≤ (d : Int) := by omega
  have c0 : (w.alloc (.cells #[.bool false, .slice none 0 0, .slice none 0 0, .slice none 0 0] 58)).cell? ⟨u, 0, none⟩ = some (.pointer (some ⟨t, 0, none⟩)) := h1.self.cell 0
  have lu := h1.self.lt
  have hun : u < w.heap.size := h.self.lt
  have HFIT := Lib.hid hfit
  have HM := Lib.hid M
  have HV := Lib.hid hv
  cases hlf : n.leaf with
  | true =>
    have hG := Lib.hid (fun W (hW : TM (r + 1 + 1) σ W) => M.get hW hv 1 (fun _ => rfl) (fun h => by rw [hlf] at h; cases h))
    have hk : Nd.kind n = 1 := by unfold Nd.kind; rw [if_pos hlf]
    have hD := Lib.hid (fun W => ndecode_any n hfit W)
    rw [hk] at hD
    generalize Nd.str (Nd.enc n) = s at *
    have H1 := Lib.hid h1
    have HBG := Lib.hid hBg
    have HB1 := Lib.hid hb1
    clear hlf hk h1 hBg hb1 hfit hv h M
    go_enter Tryz.func49, Tryz.ntmps49
    go_wp2_with fail
    refine (hG.out _ H1.out.tm).mono ?_
    rintro e w1 ⟨rfl, ht1, hf1⟩
    have h1 := H1.out.step HM.out ht1 hf1
    have hBg := hf1.blk HBG.out (HM.out.far hsz)
    have hfw : Fr S w w1 := (Fr.of_below HB1.out).trans hf1
    have hz1 := hf1.size
    have H2 := Lib.hid h1
    have HBG := Lib.hid hBg
    have HFW := Lib.hid hfw
    clear ht1 hf1 h1 hBg hfw
    simp only [World.size_alloc] at hz1
    go_wp2_with fail
    refine (hD.out _).mono ?_
    rintro e w2 ⟨v, rfl, hnf, hb2⟩
    have hz2 := hb2.size
    have h2 := H2.out.below HM.out hb2
    have hBg := HBG.out.below hb2 HBG.out.lt
    have hfw := HFW.out.trans (.of_below hb2)
    obtain ⟨A1, k1, A2, k2, A3, k3, rfl, rr⟩ := hnf
    have f0 := hBg.frozen 0
    have f1 := hBg.frozen 1
    have f2 := hBg.frozen 2
    have f3 := hBg.frozen 3
    have c0 := hBg.cell 0
    have c1 := hBg.cell 1
    have c2 := hBg.cell 2
    have c3 := hBg.cell 3
    have lg := hBg.lt
    have H3 := Lib.hid h2
    have HBG := Lib.hid hBg
    have HFW := Lib.hid hfw
    have HRR := Lib.hid rr
    clear h2 hBg hfw rr hb2
    unfold nodeV
    go_wp2
    try simp only [Exit.inBlock, Exit.then]
    refine bodyPost_ret (res_cell_tmp node_struct rfl rfl (HBG.out.put4 _ _ _ _) rfl) rfl ?_
    have hfr : ∀ a b c d, Fr (fun k => k = w.heap.size) w2 _ := fun a b c d => Fr.put4 (w := w2) (g := w.heap.size) (S := fun k => k = w.heap.size) rfl a b c d
    exact ⟨_, rfl, NF.lower (NF.fr ⟨A1, k1, A2, k2, A3, k3, rfl, HRR.out⟩ (hfr _ _ _ _) (fun k hk => by omega)) (by omega), (H3.out.less HM.out (Nat.le_succ _)).own HM.out (hfr _ _ _ _) HBG.out hsz (by omega) (by decide) (by decide) (by decide) (by decide), Fr.old (S' := fun k => S k ∨ k = w.heap.size) ((HFW.out.more fun _ => .inl).trans ((hfr _ _ _ _).more fun _ => .inr)) (fun k hk => hk.imp_right fun e => by omega)⟩
  | false =>
    have hN := Lib.hid (fun W (hW : TM (r + 1 + 1) σ W) => M.getN hW hv hlf)
    have hG := Lib.hid (fun W (hW : TM (r + 1) σ W) => M.get hW hv 2 (fun h => by rw [hlf] at h; cases h) (fun _ => rfl))
    have hk : Nd.kind n = 2 := by unfold Nd.kind; rw [if_neg (by rw [hlf]; simp)]
    have hD := Lib.hid (fun W => ndecode_any n hfit W)
    rw [hk] at hD
    generalize Nd.str (Nd.enc n) = s at *
    have H1 := Lib.hid h1
    have HBG := Lib.hid hBg
    have HB1 := Lib.hid hb1
    clear hlf hk h1 hBg hb1 hfit hv h M
    go_enter Tryz.func49, Tryz.ntmps49
    go_wp2_with fail
    refine (hN.out _ H1.out.tm).mono ?_
    rintro e w0 ⟨rfl, ht0, hf0⟩
    have h0 := H1.out.step HM.out ht0 hf0
    have c00 : w0.cell? ⟨u, 0, none⟩ = some (.pointer (some ⟨t, 0, none⟩)) := h0.self.cell 0
    have lu0 := h0.self.lt
    have H0 := Lib.hid h0
    have HF0 := Lib.hid hf0
    have hz0 := hf0.size
    simp only [World.size_alloc] at hz0
    clear ht0 hf0 h0
    go_wp2_with fail
    refine (hG.out _ H0.out.tm).mono ?_
    rintro e w1 ⟨rfl, ht1, hf1⟩
    have h1 := H0.out.step HM.out ht1 hf1
    have hBg := (HF0.out.trans hf1).blk HBG.out (HM.out.far hsz)
    have hfw : Fr S w w1 := ((Fr.of_below HB1.out).trans HF0.out).trans hf1
    have hz1 := hf1.size
    have H2 := Lib.hid h1
    have HBG := Lib.hid hBg
    have HFW := Lib.hid hfw
    clear ht1 hf1 h1 hBg hfw
    go_wp2_with fail
    refine (hD.out _).mono ?_
    rintro e w2 ⟨v, rfl, hnf, hb2⟩
    have hz2 := hb2.size
    have h2 := H2.out.below HM.out hb2
    have hBg := HBG.out.below hb2 HBG.out.lt
    have hfw := HFW.out.trans (.of_below hb2)
    obtain ⟨A1, k1, A2, k2, A3, k3, rfl, rr⟩ := hnf
    have f0 := hBg.frozen 0
    have f1 := hBg.frozen 1
    have f2 := hBg.frozen 2
    have f3 := hBg.frozen 3
    have c0 := hBg.cell 0
    have c1 := hBg.cell 1
    have c2 := hBg.cell 2
    have c3 := hBg.cell 3
    have lg := hBg.lt
    have H3 := Lib.hid h2
    have HBG := Lib.hid hBg
    have HFW := Lib.hid hfw
    have HRR := Lib.hid rr
    clear h2 hBg hfw rr hb2
    unfold nodeV
    go_wp2
    try simp only [Exit.inBlock, Exit.then]
    refine bodyPost_ret (res_cell_tmp node_struct rfl rfl (HBG.out.put4 _ _ _ _) rfl) rfl ?_
    have hfr : ∀ a b c d, Fr (fun k => k = w.heap.size) w2 _ := fun a b c d => Fr.put4 (w := w2) (g := w.heap.size) (S := fun k => k = w.heap.size) rfl a b c d
    exact ⟨_, rfl, NF.lower (NF.fr ⟨A1, k1, A2, k2, A3, k3, rfl, HRR.out⟩ (hfr _ _ _ _) (fun k hk => by omega)) (by omega), H3.out.own HM.out (hfr _ _ _ _) HBG.out hsz (by omega) (by decide) (by decide) (by decide) (by decide), Fr.old (S' := fun k => S k ∨ k = w.heap.size) ((HFW.out.more fun _ => .inl).trans ((hfr _ _ _ _).more fun _ => .inr)) (fun k hk => hk.imp_right fun e => by omega)⟩
end
end Go.Proofs.YtpfplojkiloldaaGreatDoor
namespace Go.Proofs.YtpfplojkiloldaaGreatDoor
open Go.RowKit Go.Shelf
theorem nencode_any (v : Value) (n : Nd.Node) (hfit : Nd.fits n = true) (w : World) (h : NS w v n) (hb : NB n) :
    Calls Tryz.prog 31 #[v] w fun e w' => e = .returned (.tuple #[.int .u8 (Nd.kind n : Nat), .string (Nd.str (Nd.enc n)), .int .i64 0]) ∧ Below w.heap.size w w' := by
  have h0 := h
  obtain ⟨Ae, ce, Ai, ci, Ay, cy, rfl, h1, h2, h3⟩ := h
  cases hlf : n.leaf with
  | true =>
    have hk : Nd.kind n = 1 := by unfold Nd.kind; rw [if_pos hlf]
    rw [hk]
    rw [hlf] at h0
    exact nencode_leaf Ae Ai Ay ce ci cy n hlf hfit w h0 h1 hb
  | false =>
    have hk : Nd.kind n = 2 := by unfold Nd.kind; rw [if_neg (by rw [hlf]; simp)]
    rw [hk]
    rw [hlf] at h0
    exact nencode_inner Ae Ai Ay ce ci cy n hlf hfit w h0 h2 h3 hb
section
variable {S : Nat → Prop} {B t : Nat} {room : Int} {disk : Tp.Disk} {TM : Nat → Tp.Pst → World → Prop}
def SaveEnd (S : Nat → Prop) (B t u : Nat) (TM : Nat → Tp.Pst → World → Prop) (root er : Int) (r : Nat) (o : Except Int Int × Tp.Pst) (w : World) (e : Ending) (w' : World) : Prop :=
  ∃ p x : Int, e = .returned (.tuple #[.int .i64 p, .int .i64 x]) ∧ ((o.1 = .ok p ∧ x = 0 ∧ IdOk p) ∨ (o.1 = .error 2 ∧ x = 2)) ∧ On S B t u TM root er r o.2 w' ∧ Fr S w w'
set_option maxRecDepth 100000 in
set_option maxHeartbeats 1000000 in
theorem save_any (M : Mach S B t room disk TM) (u : Nat) (root er : Int) (r : Nat) (σ : Tp.Pst) (id : Int) (hid : IdOk id) (v : Value) (n : Nd.Node) (hfit : Nd.fits n = true) (w : World) (hns : NS w v n) (h : On S B t u TM root er r σ w) :
    Calls Tryz.prog 111 #[.pointer (some ⟨u, 0, none⟩), .int .i64 id, v] w (SaveEnd S B t u TM root er r (Tp.pSave room σ id n) w) := by
  have hnb := fits_nb hfit
  obtain ⟨Ae, ce, Ai, ci, Ay, cy, rfl, q1, q2, q3⟩ := hns
  unfold nodeV
  have hb1 := (Below.refl w.heap.size w).alloc (Nat.le_refl _) (.cells #[.bool n.leaf, .slice Ae n.ents.length ce, .slice Ai n.kids.length ci, .slice Ay n.keys.length cy] 58)
  have hE := Lib.hid (fun W (hbW : Below w.heap.size w W) => nencode_any (.agg #[.bool n.leaf, .slice Ae n.ents.length ce, .slice Ai n.kids.length ci, .slice Ay n.keys.length cy]) n hfit W ⟨Ae, ce, Ai, ci, Ay, cy, rfl, q1.up hbW, q2.up hbW, q3.up hbW⟩ hnb)
  have hBg := Blk.new w 58 #[.bool n.leaf, .slice Ae n.ents.length ce, .slice Ai n.kids.length ci, .slice Ay n.keys.length cy]
  have lg := hBg.lt
  have g0 := hBg.cell 0
  have g1 := hBg.cell 1
  have g2 := hBg.cell 2
  have g3 := hBg.cell 3
  have hsz := M.size h.tm
  have HM := Lib.hid M
  have hkd1 : n.leaf = true → Nd.kind n = 1 := fun h => by unfold Nd.kind; rw [if_pos h]
  have hkd2 : n.leaf = false → Nd.kind n = 2 := fun h => by unfold Nd.kind; rw [if_neg (by rw [h]; simp)]
  have HPUT := Lib.hid (fun σ id W (hT : TM r σ W) (h1 : IdOk id) (h2 : id ∈ σ.mine) => M.put hT h1 h2 hfit (Nd.kind n) hkd1 hkd2)
  generalize Nd.str (Nd.enc n) = s at *
  generalize Nd.kind n = kd at *
  have H1 := Lib.hid (h.below M hb1)
  have HB1 := Lib.hid hb1
  have HFIT := Lib.hid hfit
  obtain ⟨o, ho⟩ : ∃ o, o = Tp.pSave room σ id n := ⟨_, rfl⟩
  rw [← ho]
  have HO := Lib.hid ho
  have HFR := Lib.hid (fun r σ W (hT : TM r σ W) => M.fresh id hT hid)
  have HID := Lib.hid hid
  clear hb1 hBg hkd1 hkd2 hnb hfit h M ho hid q1 q2 q3
  go_enter Tryz.func111, Tryz.ntmps111
  go_wp2_with fail
  refine (hE.out _ HB1.out).mono ?_
  rintro e w1 ⟨rfl, hb2⟩
  have h2 := H1.out.below HM.out hb2
  have c0 : w1.cell? ⟨u, 0, none⟩ = some (.pointer (some ⟨t, 0, none⟩)) := h2.self.cell 0
  have lu := h2.self.lt
  have hfw : Fr S w w1 := (Fr.of_below HB1.out).trans (.of_below hb2)
  have H2 := Lib.hid h2
  have HF := Lib.hid hfw
  clear h2 hfw hb2 g0 g1 g2 g3 lg
  go_wp2_with fail
  refine (HFR.out _ _ _ H2.out.tm).mono ?_
  rintro e w2 ⟨rfl, ht2, hf2⟩
  have h3 := H2.out.step HM.out ht2 hf2
  have c0 : w2.cell? ⟨u, 0, none⟩ = some (.pointer (some ⟨t, 0, none⟩)) := h3.self.cell 0
  have lu := h3.self.lt
  have hfw : Fr S w w2 := HF.out.trans hf2
  have H3 := Lib.hid h3
  have HF3 := Lib.hid hfw
  clear h3 hfw ht2 hf2
  by_cases hm : id ∈ σ.mine
  · have hdm : decide (id ∈ σ.mine) = true := decide_eq_true hm
    rw [hdm]
    have HP := Lib.hid (HPUT.out σ id w2 H3.out.tm HID.out hm)
    have hoo : o = (.ok id, σ.put id n) := by rw [HO.out]; unfold Tp.pSave; rw [if_neg (by rw [HFIT.out]; simp), if_pos hm]
    have HOO := Lib.hid hoo
    clear hm hdm hoo
    go_wp2_with fail
    refine HP.out.mono ?_
    rintro e w3 ⟨rfl, ht3, hf3⟩
    have HEND := Lib.hid (show On S B t u TM root er r o.2 w3 ∧ Fr S w w3 from ⟨by rw [HOO.out]; exact H3.out.step HM.out ht3 hf3, HF3.out.trans hf3⟩)
    clear ht3 hf3
    go_wp2
    go_ret2
    exact ⟨id, 0, rfl, .inl ⟨by rw [HOO.out], rfl, HID.out⟩, HEND.out⟩
  · have hdm : decide (id ∈ σ.mine) = false := decide_eq_false hm
    rw [hdm]
    cases ha : Tp.pAlloc room σ with
    | none =>
      have hA := Lib.hid (HM.out.full H3.out.tm ha)
      have hoo : o = (.error 2, σ) := by rw [HO.out]; unfold Tp.pSave; rw [if_neg (by rw [HFIT.out]; simp), if_neg hm, ha]
      have HOO := Lib.hid hoo
      clear hm hdm ha hoo
      go_wp2_with fail
      refine hA.out.mono ?_
      rintro e w3 ⟨rfl, ht3, hf3⟩
      have HEND := Lib.hid (show On S B t u TM root er r o.2 w3 ∧ Fr S w w3 from ⟨by rw [HOO.out]; exact H3.out.step HM.out ht3 hf3, HF3.out.trans hf3⟩)
      clear ht3 hf3
      go_wp2
      go_ret2
      exact ⟨0, 2, rfl, .inr ⟨by rw [HOO.out], rfl⟩, HEND.out⟩
    | some p =>
      obtain ⟨id', σ'⟩ := p
      have hA := Lib.hid (HM.out.alloc H3.out.tm ha)
      have hoo : o = (.ok id', σ'.put id' n) := by rw [HO.out]; unfold Tp.pSave; rw [if_neg (by rw [HFIT.out]; simp), if_neg hm, ha]
      have HOO := Lib.hid hoo
      clear hm hdm ha hoo
      go_wp2_with fail
      refine hA.out.mono ?_
      rintro e w3 ⟨rfl, hid', hmem, ht3, hf3⟩
      have h4 := H3.out.step HM.out ht3 hf3
      have c0 : w3.cell? ⟨u, 0, none⟩ = some (.pointer (some ⟨t, 0, none⟩)) := h4.self.cell 0
      have lu := h4.self.lt
      have HP := Lib.hid (HPUT.out σ' id' w3 ht3 hid' hmem)
      have H4 := Lib.hid h4
      have HF4 := Lib.hid (HF3.out.trans hf3)
      have HID' := Lib.hid hid'
      clear h4 ht3 hf3 hmem hid'
      go_wp2_with fail
      refine HP.out.mono ?_
      rintro e w4 ⟨rfl, ht4, hf4⟩
      have HEND := Lib.hid (show On S B t u TM root er r o.2 w4 ∧ Fr S w w4 from ⟨by rw [HOO.out]; exact H4.out.step HM.out ht4 hf4, HF4.out.trans hf4⟩)
      clear ht4 hf4
      go_wp2
      go_ret2
      exact ⟨id', 0, rfl, .inl ⟨by rw [HOO.out], rfl, HID'.out⟩, HEND.out⟩
end
end Go.Proofs.YtpfplojkiloldaaGreatDoor
namespace Tp
open Nd En
def cnt (n : Node) : Nat := n.ents.length + n.kids.length
structure PB (p : Part) (L : Nat) : Prop where
  len : p.1.length ≤ L
  keys : p.2.length = p.1.length - 1
  ks : ∀ k ∈ p.2, k.size ≤ 16
theorem PB.nil (L : Nat) : PB ([], []) L := ⟨Nat.zero_le _, rfl, fun _ h => by cases h⟩
theorem PB.one (i : Int) {L : Nat} (h : 1 ≤ L) : PB ([i], []) L := ⟨h, rfl, fun _ h => by cases h⟩
theorem PB.mono {p : Part} {L L' : Nat} (h : PB p L) (hl : L ≤ L') : PB p L' := ⟨Nat.le_trans h.len hl, h.keys, h.ks⟩
theorem PB.join {p q : Part} {L L' : Nat} (h : PB p L) (h' : PB q L') (k : Str) (hk : k.size ≤ 16) (hp : 0 < p.1.length) (hq : 0 < q.1.length) : PB (p.1 ++ q.1, p.2 ++ [k] ++ q.2) (L + L') := by
  refine ⟨by rw [List.length_append]; have := h.len; have := h'.len; omega, ?_, fun x hx => ?_⟩
  · have := h.keys
    have := h'.keys
    simp only [List.length_append, List.length_cons, List.length_nil]
    omega
  · rcases List.mem_append.1 hx with hx | hx
    · rcases List.mem_append.1 hx with hx | hx
      · exact h.ks x hx
      · rw [List.mem_singleton] at hx; subst hx; exact hk
    · exact h'.ks x hx
theorem ksize_16 {l : List Str} (h : ∀ k ∈ l, k.size ≤ 16) : ksize l ≤ 21 * l.length := by
  induction l with
  | nil => simp [ksize]
  | cons x l ih =>
    rw [ksize_cons, List.length_cons]
    have := ih fun y hy => h y (List.mem_cons_of_mem _ hy)
    have := h x List.mem_cons_self
    unfold ksz; omega
theorem right_split {n : Node} {q : Node × Str × Node} (h : Nd.split n = some q) : Nd.right n = true ∧ ¬ (n.ents.length < 2 ∧ n.kids.length < 2) := by
  unfold Nd.split at h
  by_cases hc : Nd.right n = false ∨ (n.ents.length < 2 ∧ n.kids.length < 2)
  · rw [if_pos hc] at h; cases h
  · exact ⟨by cases hr : Nd.right n with
      | true => rfl
      | false => exact absurd (.inl hr) hc, fun h2 => hc (.inr h2)⟩
theorem split_parts {n a b : Node} {k : Str} (h : Nd.split n = some (a, k, b)) : cnt a + cnt b = cnt n ∧ 0 < cnt a ∧ 0 < cnt b ∧ 0 < k.size ∧ k.size ≤ 16 ∧ a.ents.Sublist n.ents ∧ b.ents.Sublist n.ents ∧ a.keys.Sublist n.keys ∧ b.keys.Sublist n.keys := by
  obtain ⟨hr, h2⟩ := right_split h
  unfold Nd.split at h
  rw [if_neg (by rw [hr]; rintro (h | h); · cases h
                 · exact h2 h)] at h
  obtain ⟨leaf, ents, kids, keys⟩ := n
  cases leaf with
  | true =>
    obtain ⟨r1, rfl, rfl⟩ := right_leaf.1 hr
    simp only [if_true] at h
    have hm := ((En.right_iff ents).1 r1).1
    simp only [List.length_nil] at h2
    have hl := esize_len ents
    obtain ⟨j, g1, g2, g3, _, _⟩ := half_spec (esize ents) ents.length (by omega) ents 0 0 (by omega) (fun e => by subst e; simp at h2) (.inr (by omega)) (fun h => absurd h (by omega)) (fun _ => rfl) (fun x hx => esz_may (hm x hx))
    have hh : half ents = 0 + j := g2
    rw [hh] at h
    have hj : 0 + j < ents.length := by omega
    rw [List.getElem?_eq_getElem hj] at h
    simp only [Option.some.injEq, Prod.mk.injEq] at h
    obtain ⟨rfl, rfl, rfl⟩ := h
    have hmk := may_size (hm _ (List.getElem_mem hj))
    have hmm := hm _ (List.getElem_mem hj)
    unfold may at hmm
    simp only [Bool.and_eq_true, decide_eq_true_eq] at hmm
    refine ⟨?_, ?_, ?_, hmk.1, hmm.1.2, List.take_sublist _ _, List.drop_sublist _ _, List.Sublist.refl _, List.Sublist.refl _⟩
    · unfold cnt mkLeaf; simp only [List.length_take, List.length_drop, List.length_nil]; omega
    · unfold cnt mkLeaf; simp only [List.length_take, List.length_nil]; omega
    · unfold cnt mkLeaf; simp only [List.length_drop, List.length_nil]; omega
  | false =>
    obtain ⟨rfl, r2, r3, r4⟩ := right_inner.1 hr
    simp only [Bool.false_eq_true, if_false] at h
    simp only [List.length_nil] at h2
    have hj : kids.length / 2 - 1 < keys.length := by omega
    rw [List.getElem?_eq_getElem hj] at h
    simp only [Option.some.injEq, Prod.mk.injEq] at h
    obtain ⟨rfl, rfl, rfl⟩ := h
    have hmm := ((keys_iff keys).1 r4).1 _ (List.getElem_mem hj)
    have hmk := may_size (x := (keys[kids.length / 2 - 1], ⟨#[]⟩)) hmm
    unfold may at hmm
    simp only [Bool.and_eq_true, decide_eq_true_eq] at hmm
    refine ⟨?_, ?_, ?_, hmk.1, hmm.1.2, List.Sublist.refl _, List.Sublist.refl _, List.take_sublist _ _, List.drop_sublist _ _⟩
    · unfold cnt mkInner; simp only [List.length_take, List.length_drop, List.length_nil]; omega
    · unfold cnt mkInner; simp only [List.length_take, List.length_nil]; omega
    · unfold cnt mkInner; simp only [List.length_drop, List.length_nil]; omega
theorem esize_sub {a l : List Ent} (h : a.Sublist l) : esize a ≤ esize l := by
  induction h with
  | slnil => exact Nat.le_refl _
  | cons x _ ih => rw [esize_cons]; omega
  | cons_cons x _ ih => rw [esize_cons, esize_cons]; omega
theorem ksize_sub {a l : List Str} (h : a.Sublist l) : ksize a ≤ ksize l := by
  induction h with
  | slnil => exact Nat.le_refl _
  | cons x _ ih => rw [ksize_cons]; omega
  | cons_cons x _ ih => rw [ksize_cons, ksize_cons]; omega
theorem pStore_pos {room : Int} : ∀ (f : Nat) (σ : Pst) (id : Int) (n : Node) (p : Part), 0 < cnt n → (pStore room f σ id n).1 = .ok p → 0 < p.1.length
  | 0, _, _, _, _, _, h => by simp [pStore] at h
  | f + 1, σ, id, n, p, hn, h => by
    unfold pStore at h
    rw [if_neg (by unfold cnt at hn; omega)] at h
    cases hc : cut n with
    | none =>
      rw [hc] at h
      simp only at h
      cases hs : pSave room σ id n with
      | mk q σ1 =>
        rw [hs] at h
        cases q with
        | error e => simp at h
        | ok pg => simp only [Except.ok.injEq] at h; subst h; simp
    | some q =>
      obtain ⟨a, k, b⟩ := q
      rw [hc] at h
      simp only at h
      have hcs : Nd.split n = some (a, k, b) := by
        unfold cut at hc
        split at hc
        · exact hc
        · cases hc
      obtain ⟨_, ha, _⟩ := split_parts hcs
      cases hs : pStore room f σ id a with
      | mk q σ1 =>
        rw [hs] at h
        cases q with
        | error e => simp at h
        | ok one =>
          simp only at h
          have hp := pStore_pos f σ id a one ha (by rw [hs])
          cases hs2 : pStore room f σ1 0 b with
          | mk q2 σ2 =>
            rw [hs2] at h
            cases q2 with
            | error e => simp at h
            | ok two => simp only [Except.ok.injEq] at h; subst h; rw [List.length_append]; omega
def stJoin (one : Part) (key : Str) (q : Except Int Part × Pst) : Except Int Part × Pst := match q with
  | (.error e, σ2) => (.error e, σ2)
  | (.ok two, σ2) => (.ok (one.1 ++ two.1, one.2 ++ [key] ++ two.2), σ2)
def stRest (room : Int) (f : Nat) (b : Node) (key : Str) (q : Except Int Part × Pst) : Except Int Part × Pst := match q with
  | (.error e, σ1) => (.error e, σ1)
  | (.ok one, σ1) => stJoin one key (pStore room f σ1 0 b)
theorem stJoin_err {one : Part} {key : Str} {q : Except Int Part × Pst} {e : Int} (h : q.1 = .error e) : stJoin one key q = (.error e, q.2) := by
  obtain ⟨x, σ⟩ := q; simp only at h; subst h; rfl
theorem stJoin_ok {one two : Part} {key : Str} {q : Except Int Part × Pst} (h : q.1 = .ok two) : stJoin one key q = (.ok (one.1 ++ two.1, one.2 ++ [key] ++ two.2), q.2) := by
  obtain ⟨x, σ⟩ := q; simp only at h; subst h; rfl
theorem stRest_err {room : Int} {f : Nat} {b : Node} {key : Str} {q : Except Int Part × Pst} {e : Int} (h : q.1 = .error e) : stRest room f b key q = (.error e, q.2) := by
  obtain ⟨x, σ⟩ := q; simp only at h; subst h; rfl
theorem stRest_ok {room : Int} {f : Nat} {b : Node} {key : Str} {q : Except Int Part × Pst} {one : Part} (h : q.1 = .ok one) : stRest room f b key q = stJoin one key (pStore room f q.2 0 b) := by
  obtain ⟨x, σ⟩ := q; simp only at h; subst h; rfl
theorem pStore_cut {room : Int} {f : Nat} {σ : Pst} {id : Int} {n a b : Node} {key : Str} (h0 : ¬ n.ents.length + n.kids.length = 0) (hc : cut n = some (a, key, b)) : pStore room (f + 1) σ id n = stRest room f b key (pStore room f σ id a) := by
  rw [pStore, if_neg h0, hc]
  simp only
  cases pStore room f σ id a with
  | mk q σ1 =>
    cases q with
    | error e => rfl
    | ok one =>
      simp only
      show _ = stJoin one key (pStore room f σ1 0 b)
      cases pStore room f σ1 0 b with
      | mk q2 σ2 => cases q2 <;> rfl
def stSave (q : Except Int Int × Pst) : Except Int Part × Pst := match q with
  | (.error e, σ1) => (.error e, σ1)
  | (.ok p, σ1) => (.ok ([p], []), σ1)
theorem stSave_err {q : Except Int Int × Pst} {e : Int} (h : q.1 = .error e) : stSave q = (.error e, q.2) := by
  obtain ⟨x, σ⟩ := q; simp only at h; subst h; rfl
theorem stSave_ok {q : Except Int Int × Pst} {i : Int} (h : q.1 = .ok i) : stSave q = (.ok ([i], []), q.2) := by
  obtain ⟨x, σ⟩ := q; simp only at h; subst h; rfl
theorem pStore_whole {room : Int} {f : Nat} {σ : Pst} {id : Int} {n : Node} (h0 : ¬ n.ents.length + n.kids.length = 0) (hc : cut n = none) : pStore room (f + 1) σ id n = stSave (pSave room σ id n) := by
  rw [pStore, if_neg h0, hc]
  simp only
  cases pSave room σ id n with
  | mk q σ1 => cases q <;> rfl
theorem cut_some {n : Node} {q : Node × Str × Node} (h : cut n = some q) : 240 < size n ∧ Nd.split n = some q := by
  unfold cut at h
  split at h
  · exact ⟨by assumption, h⟩
  · cases h
theorem store_right {room : Int} {f : Nat} {σ : Pst} {id : Int} {n : Node} (h0 : ¬ n.ents.length + n.kids.length = 0) (h3 : (pStore room (f + 1) σ id n).1 ≠ .error 3) : Nd.right n = true := by
  cases hc : cut n with
  | some q => exact (right_split (cut_some hc).2).1
  | none =>
    rw [pStore_whole h0 hc] at h3
    cases hf : Nd.fits n with
    | true => exact (fits_iff.1 hf).1
    | false =>
      unfold pSave at h3
      rw [if_pos hf] at h3
      exact absurd rfl h3
theorem key_ne {k : Str} (h : 0 < k.size) : (k.toList == (⟨#[]⟩ : ByteArray).toList) = false ∧ k.toList.isEmpty = false ∧ k.toList ≠ [] := by
  have hs : k.toList ≠ [] := fun he => by
    have e : k.toList = k.data.toList := Go.Lib.toList_data k
    rw [e] at he
    have : k.size = 0 := by rw [← ByteArray.size_data, ← Array.length_toList, he]; rfl
    omega
  have e0 : (⟨#[]⟩ : ByteArray).toList = [] := by rw [Go.Lib.toList_data]
  exact ⟨by rw [e0, beq_eq_false_iff_ne]; exact hs, by cases hk : k.toList with
    | nil => exact absurd hk hs
    | cons a b => rfl, hs⟩
end Tp
