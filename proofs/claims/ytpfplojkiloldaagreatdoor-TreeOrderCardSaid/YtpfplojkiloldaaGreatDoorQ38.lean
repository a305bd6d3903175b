/- Plain: put and delete are done where the key stands; a key's value in a tree; what a visit goes through. The walks of cowtree's Get, Put, Delete. The walks of cowtree's Put, Delete. -/
import Derived.Test.YtpfplojkiloldaaGreatDoorQ36
import Derived.Test.YtpfplojkiloldaaGreatDoorQ37
namespace Tp
open Nd En
def gPut (k v : Str) (l : List En.Ent) : List En.Ent := if En.right l && En.may k v then En.put l k v else l
def gDel (k : Str) (l : List En.Ent) : List En.Ent := if En.right l then En.del l k else l
theorem del_app (a b : List En.Ent) (k : Str) : En.del (a ++ b) k = En.del a k ++ En.del b k := by unfold En.del; rw [List.filter_append]
theorem del_none {a : List En.Ent} {k : Str} (h : ∀ x ∈ a, x.1 ≠ k) : En.del a k = a := by
  unfold En.del
  rw [List.filter_eq_self]
  intro x hx
  rw [Bool.not_eq_true', eqs_false]; exact h x hx
theorem ins_low {x : En.Ent} : ∀ {a : List En.Ent} (l : List En.Ent), (∀ y ∈ a, lt y.1 x.1 = true) → En.ins x (a ++ l) = a ++ En.ins x l
  | [], _, _ => rfl
  | y :: a, l, h => by
    rw [List.cons_append, En.ins, if_neg (by rw [lt_not (h y List.mem_cons_self)]; simp), ins_low l (fun z hz => h z (List.mem_cons_of_mem _ hz))]
    rfl
theorem ins_high {x : En.Ent} {b : List En.Ent} (h : ∀ y ∈ b, lt x.1 y.1 = true) : ∀ (l : List En.Ent), En.ins x (l ++ b) = En.ins x l ++ b
  | [] => by
    cases b with
    | nil => rfl
    | cons y b => rw [List.nil_append]; show En.ins x (y :: b) = x :: y :: b; rw [En.ins, if_pos (h y List.mem_cons_self)]
  | y :: l => by
    rw [List.cons_append, En.ins, En.ins]
    by_cases hc : lt x.1 y.1 = true
    · rw [if_pos hc, if_pos hc]; rfl
    · rw [if_neg hc, if_neg hc, ins_high h l]; rfl
theorem esize_ins (x : En.Ent) : ∀ l : List En.Ent, esize (En.ins x l) = esz x + esize l
  | [] => by rw [En.ins, esize_cons]
  | y :: l => by
    rw [En.ins]
    split
    · rw [esize_cons]
    · rw [esize_cons, esize_ins x l, esize_cons]; omega
theorem esize_del (l : List En.Ent) (k : Str) : esize (En.del l k) ≤ esize l := by
  induction l with
  | nil => exact Nat.le_refl _
  | cons x l ih =>
    unfold En.del at *
    rw [List.filter_cons]
    split
    · rw [esize_cons, esize_cons]; omega
    · rw [esize_cons]; omega
theorem sub_mid (a l b : List En.Ent) : l.Sublist (a ++ (l ++ b)) := (List.sublist_append_left l b).trans (List.sublist_append_right a _)
theorem gPut_op {k v : Str} (hm : En.may k v = true) : GOp (gPut k v) k where
  right := fun l h => by unfold gPut; rw [h, hm]; exact right_put h hm
  loc := fun a l b h ha hb => by
    unfold gPut
    rw [h, hm, right_sub h (sub_mid a l b)]
    show En.put _ k v = a ++ (En.put l k v ++ b)
    unfold En.put
    rw [del_app, del_app, del_none (fun x hx => lt_ne (ha x hx)), del_none (fun x hx => (lt_ne (hb x hx)).symm), ins_low _ ha, ins_high hb]
  inn := fun l x hx => by
    unfold gPut at hx
    split at hx
    · rcases mem_put.1 hx with rfl | h
      · exact .inr rfl
      · exact .inl h.1
    · exact .inl hx
  size := fun l => by
    unfold gPut
    split
    · unfold En.put
      rw [esize_ins]
      have := esize_del l k
      have := esz_may (x := (k, v)) hm
      omega
    · omega
theorem gDel_op (k : Str) : GOp (gDel k) k where
  right := fun l h => by unfold gDel; rw [h]; exact right_del h
  loc := fun a l b h ha hb => by
    unfold gDel
    rw [h, right_sub h (sub_mid a l b)]
    show En.del _ k = a ++ (En.del l k ++ b)
    rw [del_app, del_app, del_none (fun x hx => lt_ne (ha x hx)), del_none (fun x hx => (lt_ne (hb x hx)).symm)]
  inn := fun l x hx => by
    unfold gDel at hx
    split at hx
    · exact .inl (mem_del.1 hx).1
    · exact .inl hx
  size := fun l => by
    unfold gDel
    split
    · have := esize_del l k; omega
    · omega
theorem get_mid {a l b : List En.Ent} {k : Str} (ha : ∀ x ∈ a, lt x.1 k = true) (hb : ∀ x ∈ b, lt k x.1 = true) : En.get (a ++ (l ++ b)) k = En.get l k := by
  have h1 : ∀ (c : List En.Ent), (∀ x ∈ c, x.1 ≠ k) → c.find? (fun x => eqs x.1 k) = none := fun c hc => by
    rw [List.find?_eq_none]
    intro x hx
    rw [eqs_no (hc x hx)]; simp
  unfold En.get
  rw [List.find?_append, h1 a (fun x hx => lt_ne (ha x hx)), List.find?_append, h1 b (fun x hx => (lt_ne (hb x hx)).symm)]
  cases l.find? (fun x => eqs x.1 k) <;> rfl
section
variable {disk : Disk} {σ : Pst}
theorem find_tr {key : Str} : ∀ (h f : Nat) (lo hi : Option Str) (s : Sub), h < f → Tr (σ.view disk) h lo hi s → s.id ≠ 0 → gtLo lo key → ltHi hi key → pFind disk σ key f s.id = .ok (En.get s.es key)
  | 0, f + 1, lo, hi, s, _, ht, h0, _, _ => by
    rw [pFind, if_neg h0, ht.1]
    simp only
    rw [if_pos (show (mkLeaf s.es).leaf = true from rfl)]
    rfl
  | h + 1, f + 1, lo, hi, s, hf, ht, h0, hk1, hk2 => by
    have G := tr_good (σ.view disk) h
    obtain ⟨subs, keys, a1, a2, a3, a4, a5, a6, a7⟩ := ht
    obtain ⟨hrt, hsz⟩ := fits_iff.1 a2
    obtain ⟨_, r2, r3, r4⟩ := right_inner.1 hrt
    have hlen := chain_len a7
    have hci := child_le keys key
    obtain ⟨i, hi0⟩ : ∃ i, i = child keys key := ⟨_, rfl⟩
    have hi' : i < subs.length := by omega
    rw [pFind, if_neg h0, a1]
    simp only
    rw [if_neg (show ¬ (mkInner (subs.map (·.id)) keys).leaf = true by simp [mkInner])]
    rw [show (mkInner (subs.map (·.id)) keys).keys = keys from rfl, ← hi0, show (mkInner (subs.map (·.id)) keys).kids = subs.map (·.id) from rfl, getD_kid hi']
    obtain ⟨l, hh, ti, c1, c2, hrep, hloc, hcb⟩ := chain_at G a7 hi'
    obtain ⟨kl, kh⟩ := hcb key hi0.symm hk1 hk2
    have hid : 2 ≤ (subs[i]).id := (r3 _ (List.mem_map.2 ⟨subs[i], List.getElem_mem hi', rfl⟩)).1
    rw [find_tr h f l hh subs[i] (by omega) ti (by omega) kl kh]
    have hsp : subs = subs.take i ++ (subs[i] :: subs.drop (i + 1)) := by rw [← List.drop_eq_getElem_cons, List.take_append_drop]
    have hesl : es_ subs = es_ (subs.take i) ++ ((subs[i]).es ++ es_ (subs.drop (i + 1))) := by
      conv => lhs; rw [hsp]
      rw [es_append, es_cons]
    rw [a4, hesl, get_mid (hloc key kl kh).1 (hloc key kl kh).2]
end
def from_ (l : List En.Ent) (frm : Str) : List En.Ent := l.drop (place l frm)
theorem from_cons (x : En.Ent) (l : List En.Ent) (frm : Str) : from_ (x :: l) frm = if lt x.1 frm then from_ l frm else x :: l := by
  unfold from_ place
  rw [List.takeWhile_cons]
  by_cases h : lt x.1 frm = true
  · rw [if_pos h, if_pos h]; rfl
  · rw [if_neg h, if_neg h]; rfl
theorem from_low {a : List En.Ent} {frm : Str} (b : List En.Ent) (h : ∀ x ∈ a, lt x.1 frm = true) : from_ (a ++ b) frm = from_ b frm := by
  induction a with
  | nil => rfl
  | cons x a ih => rw [List.cons_append, from_cons, if_pos (h x List.mem_cons_self), ih fun y hy => h y (List.mem_cons_of_mem _ hy)]
theorem from_all {b : List En.Ent} {frm : Str} (h : ∀ x ∈ b, lt x.1 frm = false) : from_ b frm = b := by
  cases b with
  | nil => rfl
  | cons x b => rw [from_cons, if_neg (by rw [h x List.mem_cons_self]; simp)]
theorem from_high {a b : List En.Ent} {frm : Str} (h : ∀ x ∈ b, lt x.1 frm = false) : from_ (a ++ b) frm = from_ a frm ++ b := by
  induction a with
  | nil => rw [List.nil_append, from_all h]; rfl
  | cons x a ih =>
    rw [List.cons_append, from_cons, from_cons]
    split
    · exact ih
    · rfl
theorem chain_from {P : SubP} {hi : Option Str} {frm : Str} (G : Good P) : ∀ {subs : List Sub} {keys : List Str} {lo : Option Str}, Chain P lo hi subs keys → ∃ (h : child keys frm < subs.length), from_ (es_ subs) frm = from_ (subs[child keys frm]).es frm ++ es_ (subs.drop (child keys frm + 1)) ∧ ∀ t ∈ subs.drop (child keys frm + 1), ∀ x ∈ t.es, lt x.1 frm = false
  | [s], [], lo, h => ⟨by simp [child], by simp [child, es_], by simp [child]⟩
  | s :: rest, k :: ks, lo, h => by
    obtain ⟨p, q⟩ := chain_cons.1 h
    obtain ⟨_, r2, _, _, _⟩ := chain_range G q
    by_cases hc : lt frm k = true
    · have e : child (k :: ks) frm = 0 := by unfold child; rw [if_pos hc]
      rw [e]
      have hx : ∀ x ∈ es_ rest, lt x.1 frm = false := fun x hx => lt_not (lt_of_lt_ge hc (gtLo_some.1 (r2 x hx).1))
      refine ⟨by simp, ?_, fun t ht x hxt => hx x ?_⟩
      · rw [es_cons, from_high hx]
        simp
      · unfold es_; rw [List.mem_flatMap]; exact ⟨t, by simpa using ht, hxt⟩
    · have e : child (k :: ks) frm = child ks frm + 1 := by rw [child]; rw [if_neg hc]
      rw [e]
      obtain ⟨i1, i2, i3⟩ := chain_from G q (frm := frm)
      refine ⟨by simpa using i1, ?_, ?_⟩
      · rw [es_cons, from_low _ (fun x hx => ?_), i2]
        · simp
        · exact lt_of_lt_ge (ltHi_some.1 ((G.inn p x hx).2)) (by simpa using hc)
      · simpa using i3
def ystep {S : Type} (y : S → En.Ent → S × Bool) : S → List En.Ent → S × Bool
  | s, [] => (s, true)
  | s, x :: l => if (y s x).2 then ystep y (y s x).1 l else ((y s x).1, false)
theorem ystep_app {S : Type} {y : S → En.Ent → S × Bool} : ∀ (a b : List En.Ent) (s : S), ystep y s (a ++ b) = if (ystep y s a).2 then ystep y (ystep y s a).1 b else ystep y s a
  | [], b, s => by simp [ystep]
  | x :: a, b, s => by
    rw [List.cons_append, ystep, ystep]
    by_cases h : (y s x).2 = true
    · rw [if_pos h, if_pos h, ystep_app a b]
    · rw [if_neg h, if_neg h]; simp
theorem goKids_y {S : Type} {y : S → En.Ent → S × Bool} {vis : Int → S → S × Except Int Bool} {part : Sub → List En.Ent} : ∀ (l : List Sub) (s : S), (∀ t ∈ l, ∀ s, vis t.id s = ((ystep y s (part t)).1, .ok (ystep y s (part t)).2)) → goKids vis (l.map (·.id)) s = ((ystep y s (l.flatMap part)).1, .ok (ystep y s (l.flatMap part)).2)
  | [], s, _ => rfl
  | t :: l, s, h => by
    rw [List.map_cons, goKids, h t List.mem_cons_self, List.flatMap_cons, ystep_app]
    cases hb : (ystep y s (part t)).2 with
    | true => simp only [if_true]; exact goKids_y l _ (fun u hu => h u (List.mem_cons_of_mem _ hu))
    | false => simp [hb]
theorem visit_tr {S : Type} {disk : Disk} {σ : Pst} {frm : Str} (y : S → En.Ent → S × Bool) : ∀ (h f : Nat) (lo hi : Option Str) (s : Sub) (st : S), h < f → Tr (σ.view disk) h lo hi s →
    pVisit disk σ frm (ystep y) f s.id st = ((ystep y st (from_ s.es frm)).1, .ok (ystep y st (from_ s.es frm)).2)
  | 0, f + 1, lo, hi, s, st, _, ht => by
    rw [pVisit, ht.1]
    simp only
    rw [if_pos (show (mkLeaf s.es).leaf = true from rfl)]
    rfl
  | h + 1, f + 1, lo, hi, s, st, hf, ht => by
    have G := tr_good (σ.view disk) h
    obtain ⟨subs, keys, a1, a2, a3, a4, a5, a6, a7⟩ := ht
    obtain ⟨i1, i2, i3⟩ := chain_from G a7 (frm := frm)
    rw [pVisit, a1]
    simp only
    rw [if_neg (show ¬ (mkInner (subs.map (·.id)) keys).leaf = true by simp [mkInner])]
    show goKids _ ((subs.map (·.id)).drop (child keys frm)) st = _
    have e : (subs.map (·.id)).drop (child keys frm) = (subs.drop (child keys frm)).map (·.id) := by rw [List.map_drop]
    rw [e, goKids_y (y := y) (part := fun t => from_ t.es frm) _ _ (fun t ht s => ?_)]
    · have e2 : (subs.drop (child keys frm)).flatMap (fun t => from_ t.es frm) = from_ s.es frm := by
        rw [a4, i2, List.drop_eq_getElem_cons i1, List.flatMap_cons]
        congr 1
        unfold es_
        generalize subs.drop (child keys frm + 1) = l at *
        clear i2 e
        induction l with
        | nil => rfl
        | cons t l ih => rw [List.flatMap_cons, List.flatMap_cons, from_all (i3 t List.mem_cons_self), ih fun u hu => i3 u (List.mem_cons_of_mem _ hu)]
      rw [e2]
    · obtain ⟨l, hh, hp⟩ := chain_all a7 t (List.mem_of_mem_drop ht)
      exact visit_tr y h f l hh t s (by omega) hp
end Tp
namespace Go.Proofs.YtpfplojkiloldaaGreatDoor
open Go.RowKit Go.Shelf
theorem ent_child : ∀ args w, (callFunc 51 args).run Tryz.prog w = .ok (.enter 51 args) w := fun args w => by kernel_rfl
theorem find_zero {disk : Tp.Disk} {σ : Tp.Pst} {key : ByteArray} {f : Nat} {ov : Option En.Str} (h : Tp.pFind disk σ key f 0 = .ok ov) : ov = none := by
  cases f <;> simp [Tp.pFind] at h <;> exact h.symm
theorem find_view {disk : Tp.Disk} {σ : Tp.Pst} {key : ByteArray} {f : Nat} {id : Int} {ov : Option En.Str} (h : Tp.pFind disk σ key f id = .ok ov) (h0 : id ≠ 0) : ∃ f' n, f = f' + 1 ∧ σ.view disk id = some n ∧ (if n.leaf then .ok (En.get n.ents key) else Tp.pFind disk σ key f' (n.kids.getD (Nd.child n.keys key) 0)) = (Except.ok ov : Except Int (Option En.Str)) := by
  cases f with
  | zero => rw [Tp.pFind, if_neg h0] at h; cases h
  | succ f =>
    rw [Tp.pFind, if_neg h0] at h
    cases hv : σ.view disk id with
    | none => rw [hv] at h; cases h
    | some n => rw [hv] at h; exact ⟨f, n, rfl, rfl, h⟩
section
variable {S : Nat → Prop} {B t : Nat} {room : Int} {disk : Tp.Disk} {TM : Nat → Tp.Pst → World → Prop}
def getV (ov : Option En.Str) : Value := match ov with
  | some v => .tuple #[.string v, .bool true, .int .i64 0]
  | none => .tuple #[.string ⟨#[]⟩, .bool false, .int .i64 0]
def GtEnd (S : Nat → Prop) (B t u : Nat) (TM : Nat → Tp.Pst → World → Prop) (root : Int) (r : Nat) (σ : Tp.Pst) (ov : Option En.Str) (w : World) (e : Ending) (w' : World) : Prop := e = .returned (getV ov) ∧ On S B t u TM root 0 r σ w' ∧ Fr S w w'
set_option maxRecDepth 100000 in
set_option maxHeartbeats 2000000 in
theorem tget_any (M : Mach S B t room disk TM) (u : Nat) (root : Int) (key : ByteArray) (r : Nat) (σ : Tp.Pst) (ov : Option En.Str) (hfind : Tp.pFind disk σ key 24 root = .ok ov) (w : World) (h : On S B t u TM root 0 (r + 48) σ w) :
    Calls Tryz.prog 24 #[.pointer (some ⟨u, 0, none⟩), .string key] w (GtEnd S B t u TM root r σ ov w) := by
  have t1 : w.cell? ⟨u, 1, none⟩ = some (.int .i64 root) := h.self.cell 1
  have t2 : w.cell? ⟨u, 2, none⟩ = some (.int .i64 0) := h.self.cell 2
  have HM := Lib.hid M
  have HON := Lib.hid h
  have hsz := M.size h.tm
  have hun : u < w.heap.size := h.self.lt
  have HFD := Lib.hid hfind
  clear hfind h M
  go_enter Tryz.func24, Tryz.ntmps24
  go_wp2
  go_loopg [7, 8] 24 (fun g s7 s8 wr => ∃ (d f : Nat) (idi : Int), s7 = .int .i64 idi ∧ s8 = .int .i64 (d : Nat) ∧ d + f = 24 ∧ f ≤ g ∧ Hid (Tp.pFind disk σ key f idi = .ok ov) ∧ Hid (On S B t u TM root 0 (r + 2 * f) σ wr) ∧ Hid (Fr S w wr))
  case atStart => exact ⟨0, 24, root, rfl, rfl, rfl, Nat.le_refl _, HFD, HON, Lib.hid (Fr.refl _)⟩
  case round =>
    obtain ⟨d, f, idi, rfl, rfl, hdf, hfg, HFI, HONI, HFR⟩ := hrel
    have hwz := HFR.out.size
    by_cases h0 : idi = 0
    · subst h0
      have hov := find_zero HFI.out
      have HOV := Lib.hid hov
      have HON2 := Lib.hid (HONI.out.less HM.out (show r ≤ r + 2 * f by omega))
      clear hov
      go_wp2
      go_ret3
      exact ⟨by rw [HOV.out]; rfl, HON2.out, HFR.out⟩
    · obtain ⟨f, n, rfl, hv, hgo⟩ := find_view HFI.out h0
      have h0n : (idi != 0) = true := by simpa using h0
      have hfit := (HM.out.ht HONI.out.tm hv).1
      have HLD := Lib.hid (load_any HM.out u root 0 (r + 2 * f) σ idi d n hv (by omega) wr (HONI.out.less HM.out (by omega)))
      have HFIT := Lib.hid hfit
      have HGO := Lib.hid hgo
      clear hv hfit hgo
      go_wp2_with fail
      refine Calls.mono HLD.out ?_
      rintro e w1 ⟨v, rfl, hnf, hon1, hf1⟩
      obtain ⟨N1, c1, N2, c2, N3, c3, rfl, rn⟩ := hnf
      have hz1 := hf1.size
      have hb2 := (Below.refl w1.heap.size w1).alloc (Nat.le_refl _) (.cells #[.bool n.leaf, .slice N1 n.ents.length c1, .slice N2 n.kids.length c2, .slice N3 n.keys.length c3] 58)
      have hF2 := (HFR.out.trans hf1).trans (.of_below hb2)
      have hon2 := hon1.below HM.out hb2
      have hBn := Blk.new w1 58 #[.bool n.leaf, .slice N1 n.ents.length c1, .slice N2 n.kids.length c2, .slice N3 n.keys.length c3]
      have hNF := NF.below (lo := wr.heap.size) (v := .agg #[.bool n.leaf, .slice N1 n.ents.length c1, .slice N2 n.kids.length c2, .slice N3 n.keys.length c3]) ⟨N1, c1, N2, c2, N3, c3, rfl, rn⟩ hb2
      have HRN := Lib.hid rn
      have HB2 := Lib.hid hb2
      have hzz : (w1.alloc (.cells #[.bool n.leaf, .slice N1 n.ents.length c1, .slice N2 n.kids.length c2, .slice N3 n.keys.length c3] 58)).heap.size = w1.heap.size + 1 := by simp
      unfold nodeV
      cases hlf : n.leaf with
      | true =>
        rw [hlf] at hF2 hon2 hBn hNF hzz
        have hres : En.get n.ents key = ov := by have := HGO.out; rw [hlf] at this; simpa using this
        have hrt : En.right n.ents = true := by
          obtain ⟨hr, _⟩ := Tp.fits_iff.1 HFIT.out
          obtain ⟨leaf, ents, kids, keys⟩ := n
          obtain rfl : leaf = true := hlf
          exact (Nd.right_leaf.1 hr).1
        have hle := (fits_small HFIT.out).1
        have HEG := Lib.hid (eget_any N1 c1 n.ents key _ (LO.below HRN.out.1 (by rw [hlf] at hb2; exact hb2)).ls (by omega) hrt)
        rw [hres] at HEG
        have g0 := hBn.cell 0
        have g1 := hBn.cell 1
        have ln := hBn.lt
        have HF2 := Lib.hid hF2
        have HON2 := Lib.hid hon2
        clear hb2 hon1 hon2 hf1 rn hBn hNF hF2 hres hrt hlf
        cases ov with
        | none =>
          go_wp2_with fail
          refine HEG.out.mono ?_
          rintro e w3 ⟨rfl, hb3⟩
          have HEND := Lib.hid (show On S B t u TM root 0 r σ w3 ∧ Fr S w w3 from ⟨(HON2.out.below HM.out hb3).less HM.out (by omega), HF2.out.trans (.of_below hb3)⟩)
          clear hb3
          go_wp2
          go_ret3
          exact ⟨rfl, HEND.out.1, HEND.out.2⟩
        | some val =>
          go_wp2_with fail
          refine HEG.out.mono ?_
          rintro e w3 ⟨rfl, hb3⟩
          have HEND := Lib.hid (show On S B t u TM root 0 r σ w3 ∧ Fr S w w3 from ⟨(HON2.out.below HM.out hb3).less HM.out (by omega), HF2.out.trans (.of_below hb3)⟩)
          clear hb3
          go_wp2
          go_ret3
          exact ⟨rfl, HEND.out.1, HEND.out.2⟩
      | false =>
        rw [hlf] at hF2 hon2 hBn hNF hzz hb2
        have hgo2 : Tp.pFind disk σ key f (n.kids.getD (Nd.child n.keys key) 0) = .ok ov := by have := HGO.out; rw [hlf] at this; simpa using this
        have hks : Nd.KSrt n.keys ∧ n.keys.length + 1 = n.kids.length := by
          obtain ⟨hr, _⟩ := Tp.fits_iff.1 HFIT.out
          obtain ⟨leaf, ents, kids, keys⟩ := n
          obtain rfl : leaf = false := hlf
          exact ⟨((Nd.keys_iff keys).1 (Nd.right_inner.1 hr).2.2.2).2, (Nd.right_inner.1 hr).2.1⟩
        have hci := Nd.child_le n.keys key
        have hkl : n.kids.length ≤ 100000 := (fits_nb HFIT.out).i
        obtain ⟨i, hi⟩ : ∃ i, i = Nd.child n.keys key := ⟨_, rfl⟩
        have HCH := Lib.hid (fun W hbW => nchild_any (.agg #[.bool false, .slice N1 n.ents.length c1, .slice N2 n.kids.length c2, .slice N3 n.keys.length c3]) n key W (NF.below hNF hbW).ns (fits_nb HFIT.out) hks.1)
        rw [← hi] at HCH hci hgo2
        have hik : i < n.kids.length := by have := hks.2; omega
        have hge : n.kids.getD i 0 = n.kids[i]'hik := by simp [List.getD, hik]
        rw [hge] at hgo2
        obtain ⟨bb, oo, rfl, hbb, gk⟩ := HRN.out.2.1.ls.int hik
        have gk2 := (hb2.cell (p := ⟨bb, oo + i, none⟩) hbb).trans gk
        have HGO2 := Lib.hid hgo2
        have hidx : (i : Int) < n.kids.length := by omega
        have g0 := hBn.cell 0
        have ln := hBn.lt
        have HBn := Lib.hid hBn
        have HF2 := Lib.hid hF2
        have HON2 := Lib.hid hon2
        clear hb2 hon1 hon2 hf1 rn hBn hNF hF2 hgo2 hks hlf hci hi hge gk
        go_wp2_with fail
        generalize (w1.alloc (.cells #[.bool false, .slice N1 n.ents.length c1, .slice (some ⟨bb, oo, none⟩) n.kids.length c2, .slice N3 n.keys.length c3] 58)) = w2 at *
        refine wp_region_flow (base := w2.heap.size) (fun uu => ⟨#[_, _, _, _, _, _, _, uu 7, _, _, _, _, _, _, _, _, _, _, _, _, _, _, _, _, _, _, _, _, _, _, _, _, _, _, _, _, _, _, _, _, _, _, _, _, _, _, _, _, _, _, _, uu 0, uu 1, uu 2, uu 3, uu 4, uu 5, uu 6], _⟩)
          [Is.eq _ (.pointer (some ⟨w1.heap.size, 2, none⟩)), Is.eq _ (.slice (some ⟨bb, oo, none⟩) n.kids.length c2), Is.eq _ (.agg #[.bool false, .slice N1 n.ents.length c1, .slice (some ⟨bb, oo, none⟩) n.kids.length c2, .slice N3 n.keys.length c3]), Is.eq _ (.string key), Is.eq _ (.int .i64 (i : Nat)), Is.eq _ (.pointer (some ⟨bb, oo + i, none⟩)), Is.eq _ (.int .i64 (n.kids[i]'hik)), Is.eq _ (.int .i64 (n.kids[i]'hik))]
          (by kernel_rfl) (by kernel_rfl) (by kernel_rfl) [] rfl (Nat.le_refl _) (by simp) (by simp) ⟨fun k => if k = 7 then .int .i64 idi else (#[u51, u52, u53, u54, u55, u56, u57] : Array Value).getD k undef, rfl⟩ ?_ ?_
        · intro k o ho uu W hf hold hdep
          have hfb : Below w2.heap.size w2 W := hf.low (Nat.le_refl _) (fun k a => by simp at a)
          have hBW := HBn.out.below hfb ln
          have cW := hBW.cell 2
          match k, ho with
          | 0, ho =>
            have ho := Option.some.inj ho; subst ho
            exact Does.val (op_fan2 rfl rfl) ⟨rfl, rfl, Fr.refl _⟩
          | 1, ho =>
            have ho := Option.some.inj ho; subst ho
            exact Does.val (op_ld_ints rfl (hdep 0 rfl) cW) ⟨rfl, rfl, Fr.refl _⟩
          | 2, ho =>
            have ho := Option.some.inj ho; subst ho
            exact Does.val (op_ld_row node_struct rfl rfl hBW rfl) ⟨rfl, rfl, Fr.refl _⟩
          | 3, ho =>
            have ho := Option.some.inj ho; subst ho
            exact Does.val (op_mv rfl rfl) ⟨rfl, rfl, Fr.refl _⟩
          | 4, ho =>
            have ho := Option.some.inj ho; subst ho
            refine Does.call (op_call2 ent_child rfl (hdep 2 rfl) (hdep 3 rfl)) (Calls.mono (HCH.out W hfb) ?_)
            rintro e w' ⟨rfl, hb'⟩
            exact ⟨_, rfl, rfl, rfl, .of_below hb'⟩
          | 5, ho =>
            have ho := Option.some.inj ho; subst ho
            exact Does.val (op_ia_ints rfl (hdep 1 rfl) (hdep 4 rfl) hik) ⟨rfl, rfl, Fr.refl _⟩
          | 6, ho =>
            have ho := Option.some.inj ho; subst ho
            exact Does.val (op_ldint rfl (hdep 5 rfl) ((hfb.cell (p := ⟨bb, oo + i, none⟩) (show bb < w2.heap.size by omega)).trans gk2)) ⟨rfl, rfl, Fr.refl _⟩
          | 7, ho =>
            have ho := Option.some.inj ho; subst ho
            exact Does.val (op_as rfl (hdep 6 rfl)) ⟨rfl, rfl, Fr.refl _⟩
          | n + 8, ho => exact absurd ho (by simp)
        · intro uu W hf hall
          have e7 : uu 7 = .int .i64 (n.kids[i]'hik) := hall 7 (by decide)
          simp only [e7]
          have hfb : Below w2.heap.size w2 W := hf.low (Nat.le_refl _) (fun k a => by simp at a)
          have HON3 := Lib.hid (HON2.out.below HM.out hfb)
          have HF3 := Lib.hid (HF2.out.trans (.of_below hfb))
          clear hall hf hfb e7
          go_wp2
          go_roundg f
          case measure => omega
          case rel => exact ⟨d + 1, f, _, rfl, by go_num, by omega, Nat.le_refl _, HGO2, HON3, HF3⟩
end
end Go.Proofs.YtpfplojkiloldaaGreatDoor
namespace Go.Proofs.YtpfplojkiloldaaGreatDoor
open Go.RowKit Go.Shelf
section
variable {S : Nat → Prop} {B t : Nat} {room : Int} {disk : Tp.Disk} {TM : Nat → Tp.Pst → World → Prop}
set_option maxRecDepth 100000 in
theorem put_do {gk gv : Nat} (k v : ByteArray) (hm : En.may k v = true) (hgk : ¬ S gk) (hgv : ¬ S gv) : DoFn S 42 #[.pointer (some ⟨gk, 0, none⟩), .pointer (some ⟨gv, 0, none⟩)] (Tp.gPut k v) (fun W => Blk W gk 9 #[.string k] ∧ Blk W gv 9 #[.string v]) where
  keep := fun h hf => ⟨hf.blk h.1 hgk, hf.blk h.2 hgv⟩
  enters := fun args w => by kernel_rfl
  size := fun l hl => by have := (Tp.gPut_op hm).size l; omega
  call := fun w A c l hP hsv hl => by
    have hE := Lib.hid (eput_any A c l k v w hsv (by omega))
    have h1 := hP.1.cell 0
    have h2 := hP.2.cell 0
    have l1 := hP.1.lt
    have l2 := hP.2.lt
    have hq : putS l k v = Tp.gPut k v l := rfl
    rw [hq] at hE
    generalize Tp.gPut k v l = o at *
    clear hP hq
    show Calls Tryz.prog 42 #[.slice A l.length c, .pointer (some ⟨gk, 0, none⟩), .pointer (some ⟨gv, 0, none⟩)] w _
    go_enter Tryz.func42, Tryz.ntmps42
    go_wp2_with fail
    refine hE.out.mono ?_
    rintro e w1 ⟨A', c', rfl, hs1, hb1⟩
    have H1 := Lib.hid hs1
    clear hs1
    go_wp2
    go_ret
    exact ⟨A', c', rfl, H1.out, hb1⟩
set_option maxRecDepth 100000 in
theorem del_do {gk : Nat} (k : ByteArray) (hgk : ¬ S gk) : DoFn S 47 #[.pointer (some ⟨gk, 0, none⟩)] (Tp.gDel k) (fun W => Blk W gk 9 #[.string k]) where
  keep := fun h hf => hf.blk h hgk
  enters := fun args w => by kernel_rfl
  size := fun l hl => by have := (Tp.gDel_op k).size l; omega
  call := fun w A c l hP hsv hl => by
    have hE := Lib.hid (edel_any A c l k w hsv (by omega))
    have h1 := Blk.cell hP 0
    have l1 := Blk.lt hP
    have hq : delS l k = Tp.gDel k l := rfl
    rw [hq] at hE
    generalize Tp.gDel k l = o at *
    clear hP hq
    show Calls Tryz.prog 47 #[.slice A l.length c, .pointer (some ⟨gk, 0, none⟩)] w _
    go_enter Tryz.func47, Tryz.ntmps47
    go_wp2_with fail
    refine hE.out.mono ?_
    rintro e w1 ⟨A', c', rfl, hs1, hb1⟩
    have H1 := Lib.hid hs1
    clear hs1
    go_wp2
    go_ret
    exact ⟨A', c', rfl, H1.out, hb1⟩
theorem ctput_no (M : Mach S B t room disk TM) (u : Nat) (root : Int) (k v : ByteArray) (hm : En.may k v = false) (r : Nat) (σ : Tp.Pst) (w : World) (h : On S B t u TM root 0 r σ w) :
    Calls Tryz.prog 15 #[.pointer (some ⟨u, 0, none⟩), .string k, .string v] w fun e w' => e = .returned (.int .i64 110) ∧ On S B t u TM root 0 r σ w' ∧ Below w.heap.size w w' := by
  have hb1 := (Below.refl w.heap.size w).alloc (Nat.le_refl _) (.cells #[.string k] 9)
  have hb2 := hb1.alloc hb1.size (.cells #[.string v] 9)
  have hon := (h.below M hb1).below M (Below.alloc (Below.refl _ _) (Nat.le_refl _) (.cells #[.string v] 9))
  have hBk := (Blk.new w 9 #[.string k]).alloc (.cells #[.string v] 9)
  have hBv := Blk.new (w.alloc (.cells #[.string k] 9)) 9 #[.string v]
  simp only [World.size_alloc] at hBv
  have k0 : ((w.alloc (.cells #[.string k] 9)).alloc (.cells #[.string v] 9)).cell? ⟨w.heap.size, 0, none⟩ = some (.string k) := hBk.cell 0
  have kl := hBk.lt
  have v0 : ((w.alloc (.cells #[.string k] 9)).alloc (.cells #[.string v] 9)).cell? ⟨w.heap.size + 1, 0, none⟩ = some (.string v) := hBv.cell 0
  have vl := hBv.lt
  have t2 : ((w.alloc (.cells #[.string k] 9)).alloc (.cells #[.string v] 9)).cell? ⟨u, 2, none⟩ = some (.int .i64 0) := hon.self.cell 2
  have lt2 := hon.self.lt
  have hc := fun W => hid_calls (check_any k v W)
  rw [chk_no hm] at hc
  have HON := Lib.hid hon
  have HB := Lib.hid hb2
  clear hm h hon hb1 hb2 M hBk hBv
  go_enter Tryz.func15, Tryz.ntmps15
  go_wp2_with fail
  refine (hc _).out.mono ?_
  rintro e _ ⟨rfl, rfl⟩
  go_wp2
  go_ret
  exact ⟨rfl, HON.out, HB.out⟩
set_option maxRecDepth 100000 in
set_option maxHeartbeats 1000000 in
theorem ctput_may (M : Mach S B t room disk TM) (u : Nat) (root : Int) (k v : ByteArray) (hm : En.may k v = true) (r : Nat) (σ : Tp.Pst) (h3 : (Tp.pUpdate room disk (Tp.gPut k v) k σ root).1 ≠ .error 3) (w : World) (h : On S B t u TM root 0 (r + 48 + 192) σ w) :
    Calls Tryz.prog 15 #[.pointer (some ⟨u, 0, none⟩), .string k, .string v] w (UpEnd S B t u TM root r (Tp.pUpdate room disk (Tp.gPut k v) k σ root) w) := by
  have hsz := M.size h.tm
  have hb1 := (Below.refl w.heap.size w).alloc (Nat.le_refl _) (.cells #[.string k] 9)
  have hb2 := hb1.alloc hb1.size (.cells #[.string v] 9)
  have hon := (h.below M hb1).below M (Below.alloc (Below.refl _ _) (Nat.le_refl _) (.cells #[.string v] 9))
  have hBk := (Blk.new w 9 #[.string k]).alloc (.cells #[.string v] 9)
  have hBv := Blk.new (w.alloc (.cells #[.string k] 9)) 9 #[.string v]
  simp only [World.size_alloc] at hBv
  have HUP := Lib.hid (update_any M u root (put_do k v hm (M.far hsz) (M.far (show B ≤ w.heap.size + 1 by omega))) k r σ h3 _ ⟨hBk, hBv⟩ hon)
  have k0 : ((w.alloc (.cells #[.string k] 9)).alloc (.cells #[.string v] 9)).cell? ⟨w.heap.size, 0, none⟩ = some (.string k) := hBk.cell 0
  have kl := hBk.lt
  have v0 : ((w.alloc (.cells #[.string k] 9)).alloc (.cells #[.string v] 9)).cell? ⟨w.heap.size + 1, 0, none⟩ = some (.string v) := hBv.cell 0
  have vl := hBv.lt
  have t2 : ((w.alloc (.cells #[.string k] 9)).alloc (.cells #[.string v] 9)).cell? ⟨u, 2, none⟩ = some (.int .i64 0) := hon.self.cell 2
  have lt2 := hon.self.lt
  have hc := fun W => hid_calls (check_any k v W)
  rw [chk_yes hm] at hc
  have HB := Lib.hid hb2
  obtain ⟨o, ho⟩ : ∃ o, o = Tp.pUpdate room disk (Tp.gPut k v) k σ root := ⟨_, rfl⟩
  rw [← ho] at HUP ⊢
  clear hm h hon hb1 hb2 M hBk hBv ho h3
  go_enter Tryz.func15, Tryz.ntmps15
  go_wp2_with fail
  refine (hc _).out.mono ?_
  rintro e _ ⟨rfl, rfl⟩
  go_wp2_with fail
  refine Calls.mono HUP.out ?_
  rintro e w2 ⟨hres, hf⟩
  have HF := Lib.hid (((Fr.of_below HB.out).trans hf : Fr (fun k => S k ∨ k = u) w w2))
  rcases hres with ⟨p, hok, rfl, hon2⟩ | ⟨herr, rfl, hon2⟩
  · have HON2 := Lib.hid hon2
    have HOK := Lib.hid hok
    clear hon2 hok hf
    go_wp2
    go_ret
    exact ⟨.inl ⟨p, HOK.out, rfl, HON2.out⟩, HF.out⟩
  · have HON2 := Lib.hid hon2
    have HOK := Lib.hid herr
    clear hon2 herr hf
    go_wp2
    go_ret
    exact ⟨.inr ⟨HOK.out, rfl, HON2.out⟩, HF.out⟩
theorem tdel_none (M : Mach S B t room disk TM) (u : Nat) (root : Int) (k : ByteArray) (r : Nat) (σ : Tp.Pst) (hfind : Tp.pFind disk σ k 24 root = .ok none) (w : World) (h : On S B t u TM root 0 (r + 48) σ w) :
    Calls Tryz.prog 21 #[.pointer (some ⟨u, 0, none⟩), .string k] w fun e w' => e = .returned (.tuple #[.bool false, .int .i64 0]) ∧ On S B t u TM root 0 r σ w' ∧ Fr S w w' := by
  have hb1 := (Below.refl w.heap.size w).alloc (Nat.le_refl _) (.cells #[.string k] 9)
  have HG := Lib.hid (tget_any M u root k r σ none hfind _ (h.below M hb1))
  have HB := Lib.hid hb1
  clear h hb1 M hfind
  go_enter Tryz.func21, Tryz.ntmps21
  go_wp2_with fail
  refine Calls.mono HG.out ?_
  rintro e w2 ⟨rfl, hon, hf⟩
  have HEND := Lib.hid (And.intro hon ((Fr.of_below HB.out).trans hf : Fr S w w2))
  unfold getV
  clear hon hf
  go_wp2
  go_ret2
  exact ⟨rfl, HEND.out.1, HEND.out.2⟩
def DlEnd (S : Nat → Prop) (B t u : Nat) (TM : Nat → Tp.Pst → World → Prop) (root : Int) (r : Nat) (o : Except Int Int × Tp.Pst) (w : World) (e : Ending) (w' : World) : Prop :=
  ((∃ p, o.1 = .ok p ∧ e = .returned (.tuple #[.bool true, .int .i64 0]) ∧ On S B t u TM p 0 r o.2 w') ∨ (o.1 = .error 2 ∧ e = .returned (.tuple #[.bool false, .int .i64 2]) ∧ On S B t u TM root 2 r o.2 w')) ∧ Fr (fun k => S k ∨ k = u) w w'
set_option maxRecDepth 100000 in
set_option maxHeartbeats 1000000 in
theorem tdel_some (M : Mach S B t room disk TM) (u : Nat) (root : Int) (k v : ByteArray) (r : Nat) (σ : Tp.Pst) (hfind : Tp.pFind disk σ k 24 root = .ok (some v)) (h3 : (Tp.pUpdate room disk (Tp.gDel k) k σ root).1 ≠ .error 3) (w : World) (h : On S B t u TM root 0 (r + 48 + 192 + 48) σ w) :
    Calls Tryz.prog 21 #[.pointer (some ⟨u, 0, none⟩), .string k] w (DlEnd S B t u TM root r (Tp.pUpdate room disk (Tp.gDel k) k σ root) w) := by
  have hsz := M.size h.tm
  have hb1 := (Below.refl w.heap.size w).alloc (Nat.le_refl _) (.cells #[.string k] 9)
  have hBk := Blk.new w 9 #[.string k]
  have HG := Lib.hid (tget_any M u root k (r + 48 + 192) σ (some v) hfind _ (h.below M hb1))
  have HUP := Lib.hid (fun W hP hon => update_any M u root (del_do k (M.far hsz)) k r σ h3 W hP hon)
  have HB := Lib.hid hb1
  have HBk := Lib.hid hBk
  have HM := Lib.hid M
  obtain ⟨o, ho⟩ : ∃ o, o = Tp.pUpdate room disk (Tp.gDel k) k σ root := ⟨_, rfl⟩
  rw [← ho] at HUP ⊢
  clear h hb1 M hfind ho h3 hBk
  go_enter Tryz.func21, Tryz.ntmps21
  go_wp2_with fail
  refine Calls.mono HG.out ?_
  rintro e w2 ⟨rfl, hon, hf⟩
  have hBk2 := hf.blk HBk.out (HM.out.far hsz)
  have k0 := hBk2.cell 0
  have lk := hBk2.lt
  have HU2 := Lib.hid (HUP.out w2 hBk2 hon)
  have HF2 := Lib.hid (((Fr.of_below HB.out).trans hf : Fr S w w2))
  unfold getV
  clear hon hf hBk2
  go_wp2_with fail
  refine Calls.mono HU2.out ?_
  rintro e w3 ⟨hres, hf3⟩
  have HF3 := Lib.hid ((HF2.out.more (S' := fun k => S k ∨ k = u) (fun _ => .inl)).trans hf3)
  rcases hres with ⟨p, hok, rfl, hon2⟩ | ⟨herr, rfl, hon2⟩
  · have HON2 := Lib.hid hon2
    have HOK := Lib.hid hok
    clear hon2 hok hf3
    go_wp2
    go_ret2
    exact ⟨.inl ⟨p, HOK.out, rfl, HON2.out⟩, HF3.out⟩
  · have HON2 := Lib.hid hon2
    have HOK := Lib.hid herr
    have t2 := hon2.self.cell 2
    have ft2 := hon2.self.frozen 2
    have lt2 := hon2.self.lt
    clear hon2 herr hf3
    go_wp2
    go_ret2
    exact ⟨.inr ⟨HOK.out, rfl, HON2.out.write HM.out (Fr.set_ (S := fun k => k = u) rfl _) (HON2.out.self.set_ 2 (.int .i64 2))⟩, HF3.out.trans ((Fr.set_ (S := fun k => k = u) rfl _).more fun _ => .inr)⟩
end
end Go.Proofs.YtpfplojkiloldaaGreatDoor
