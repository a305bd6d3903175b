/- Plain: storing an inner node; joining a thin kid with the one beside it. Plain: a thin kid joined with the one beside it. Plain: a leaf of a tree changed, and all above it. Plain: the root of a tree; a tree with a key put or deleted. -/
import Derived.Test.YtpfplojkiloldaaGreatDoorQ13
namespace Tp
open Nd En
theorem toks_ge {subs : List Sub} {m : Nat} (h : ∀ t ∈ subs, m ≤ t.tok) : subs.length * m ≤ toks subs := by
  induction subs with
  | nil => simp
  | cons s l ih =>
    rw [toks_cons, List.length_cons, Nat.succ_mul]
    have := ih fun t ht => h t (List.mem_cons_of_mem _ ht)
    have := h s List.mem_cons_self
    omega
theorem toks_td (subs : List Sub) (k : Nat) : toks (subs.take k) + toks (subs.drop k) = toks subs := by rw [← toks_append, List.take_append_drop]
theorem es_td (subs : List Sub) (k : Nat) : es_ (subs.take k) ++ es_ (subs.drop k) = es_ subs := by rw [← es_append, List.take_append_drop]
theorem ids_td (subs : List Sub) (k : Nat) : ids_ (subs.take k) ++ ids_ (subs.drop k) = ids_ subs := by rw [← ids_append, List.take_append_drop]
theorem mem_sub_id {P : SubP} {v : Int → Option Node} {h : Nat} {lo hi : Option Str} {subs : List Sub} {keys : List Str} (hch : Chain (Tr v h) lo hi subs keys) (_ : P = P) {t : Sub} (ht : t ∈ subs) : t.id ∈ ids_ subs := by
  obtain ⟨l, hh, h1⟩ := chain_all hch t ht
  exact mem_ids ht (tr_id h1)
section
variable {room : Int} {disk : Disk} {used : List Run} {σ σ1 : Pst}
theorem kids_range (hap : ApS room used σ) {h : Nat} {v : Int → Option Node} {lo hi : Option Str} {subs : List Sub} {keys : List Str} (hch : Chain (Tr v h) lo hi subs keys) (huse : ∀ x ∈ ids_ subs, Use used σ x) : ∀ i ∈ subs.map (·.id), 2 ≤ i ∧ i ≤ 4294967295 := fun i hi' => by
  obtain ⟨t, ht, rfl⟩ := List.mem_map.1 hi'
  have := use_range hap (huse _ (mem_sub_id (P := Tr v h) hch rfl ht))
  have := hap.pg
  omega
theorem chain_view {v v' : Int → Option Node} {h : Nat} {lo hi : Option Str} {subs : List Sub} {keys : List Str} (hv : ∀ x ∈ ids_ subs, v' x = v x) (hch : Chain (Tr v h) lo hi subs keys) : Chain (Tr v' h) lo hi subs keys :=
  chain_congr (fun _ hs _ _ ht => tr_congr (fun x hx => hv x (mem_ids hs hx)) ht) hch
theorem store_inner (hap : ApS room used σ) (id : Int) {h : Nat} {subs : List Sub} {keys : List Str} {lo hi : Option Str} {tok : Nat} {big : Prop} (hch : Chain (Tr (σ.view disk) h) lo hi subs keys) (hk : ∀ k ∈ keys, may k ⟨#[]⟩ = true)
    (huse : ∀ x ∈ ids_ subs, Use used σ x) (hnd : (ids_ subs).Nodup) (hid : id ∉ ids_ subs) (hs : ksize keys ≤ 257) (ht : toks subs ≤ tok) (h6 : ∀ t ∈ subs, 6 ^ h ≤ t.tok) (hb : big → 6 ^ (h + 1) ≤ tok) :
    Res room disk used σ (fun x => x = id ∨ x ∈ ids_ subs) 2 (pStore room (fuelOf (mkInner (subs.map (·.id)) keys)) σ id (mkInner (subs.map (·.id)) keys)) (fun p σ' ids => PartsAt (σ'.view disk) (h + 1) lo hi p ids (es_ subs) tok big) := by
  have G := tr_good (σ.view disk) h
  have hlen := chain_len hch
  have hkr := kids_range hap hch huse
  have hks := (chain_range G hch).2.2.2.1
  have hml : (subs.map (·.id)).length = subs.length := List.length_map _
  have hne : (mkInner (subs.map (·.id)) keys).ents.length + (mkInner (subs.map (·.id)) keys).kids.length ≠ 0 := by
    show 0 + (subs.map (·.id)).length ≠ 0
    omega
  have hfu : fuelOf (mkInner (subs.map (·.id)) keys) = subs.length + 1 := by show 0 + (subs.map (·.id)).length + 1 = _; omega
  rw [hfu]
  by_cases hsz : 240 < 4 + ksize keys
  · obtain ⟨k, key, k5, k7, hkey, hc, f1, f2⟩ := inner_cut (by rw [hml]; exact hlen) hkr hk hks hsz hs
    rw [hml] at k7
    obtain ⟨f, hf⟩ : ∃ f, subs.length + 1 = f + 2 := ⟨subs.length - 1, by omega⟩
    rw [hf]
    rw [← List.map_take, ← List.map_drop] at hc
    rw [← List.map_take] at f1
    rw [← List.map_drop] at f2
    have hto := store_two (disk := disk) hap f id hne hc f1 f2 (by show 0 + ((subs.take (k + 1)).map (·.id)).length ≠ 0; rw [List.length_map, List.length_take]; omega) (by show 0 + ((subs.drop (k + 1)).map (·.id)).length ≠ 0; rw [List.length_map, List.length_drop]; omega)
    obtain ⟨key', hkey', c1, c2⟩ := chain_cut (i := k) hch (by omega)
    have e : key' = key := Option.some.inj (hkey'.symm.trans hkey)
    subst e
    rcases hto with ⟨p, ids, e1, s1, n1, l1, pa, pb, rfl, rfl, va, vb⟩ | ⟨e1, s1, l1⟩
    · have hfr := s1.frame hap (C := fun x => x ∈ ids_ subs) huse
      have hkeep : ∀ x ∈ ids_ subs, (pStore room (f + 2) σ id (mkInner (subs.map (·.id)) keys)).2.view disk x = σ.view disk x := fun x hx => s1.keep x (fun e => hid (e ▸ hx)) (huse x hx)
      have hnew : ∀ x ∈ ids_ subs, x ≠ pa ∧ x ≠ pb := fun x hx => by
        have := s1.apart (huse x hx) (fun e => hid (e ▸ hx))
        simp only [List.mem_cons, List.not_mem_nil, or_false, not_or] at this
        exact this
      generalize pStore room (f + 2) σ id (mkInner (subs.map (·.id)) keys) = r at *
      have hpab : pa ≠ pb := by simpa using n1
      have htd := toks_td subs (k + 1)
      have hta := toks_ge (subs := subs.take (k + 1)) (m := 6 ^ h) (fun t ht => h6 t (List.mem_of_mem_take ht))
      have htb := toks_ge (subs := subs.drop (k + 1)) (m := 6 ^ h) (fun t ht => h6 t (List.mem_of_mem_drop ht))
      rw [List.length_take] at hta
      rw [List.length_drop] at htb
      have hm6 : 6 * 6 ^ h = 6 ^ (h + 1) := by rw [Nat.pow_succ, Nat.mul_comm]
      have ha6 : 6 ^ (h + 1) ≤ toks (subs.take (k + 1)) := by
        rw [← hm6]; exact Nat.le_trans (Nat.mul_le_mul_right _ (by omega)) hta
      have hb6 : 6 ^ (h + 1) ≤ toks (subs.drop (k + 1)) := by
        rw [← hm6]; exact Nat.le_trans (Nat.mul_le_mul_right _ (by omega)) htb
      have hidtd := ids_td subs (k + 1)
      have hmem : ∀ x, x ∈ ids_ subs ↔ x ∈ ids_ (subs.take (k + 1)) ∨ x ∈ ids_ (subs.drop (k + 1)) := fun x => by rw [← hidtd, List.mem_append]
      have hnd2 := hnd
      rw [← hidtd, List.nodup_append] at hnd2
      refine .inl ⟨_, pa :: ids_ (subs.take (k + 1)) ++ pb :: ids_ (subs.drop (k + 1)), e1, hfr.congr (fun _ => Iff.rfl) (fun x => ?_), ?_, l1, .inr ⟨[⟨pa, pa :: ids_ (subs.take (k + 1)), es_ (subs.take (k + 1)), tok - toks (subs.drop (k + 1))⟩, ⟨pb, pb :: ids_ (subs.drop (k + 1)), es_ (subs.drop (k + 1)), toks (subs.drop (k + 1))⟩], rfl, (by show _ = (pa :: ids_ (subs.take (k + 1))) ++ ((pb :: ids_ (subs.drop (k + 1))) ++ []); rw [List.append_nil]), (by show es_ subs = es_ (subs.take (k + 1)) ++ (es_ (subs.drop (k + 1)) ++ []); rw [List.append_nil, es_td]), (by simp only [toks_cons]; show _ + (_ + 0) ≤ tok; omega), chain_cons.2 ⟨⟨subs.take (k + 1), keys.take k, va, f1, rfl, rfl, by show _ ≤ tok - _; omega, fun t ht => h6 t (List.mem_of_mem_take ht), ?_⟩, ⟨subs.drop (k + 1), keys.drop (k + 1), vb, f2, rfl, rfl, Nat.le_refl _, fun t ht => h6 t (List.mem_of_mem_drop ht), ?_⟩⟩, fun y hy => ?_, by simp, fun _ t ht => ?_⟩⟩
      · simp only [List.mem_append, List.mem_cons, List.not_mem_nil, or_false, hmem]
        constructor
        · rintro ((h1 | h1) | ⟨h1 | h1, _⟩)
          · exact .inl (.inl h1)
          · exact .inr (.inl h1)
          · exact .inl (.inr h1)
          · exact .inr (.inr h1)
        · rintro ((h1 | h1) | (h1 | h1))
          · exact .inl (.inl h1)
          · exact .inr ⟨.inl h1, fun e => hid (e ▸ (hmem x).2 (.inl h1))⟩
          · exact .inl (.inr h1)
          · exact .inr ⟨.inr h1, fun e => hid (e ▸ (hmem x).2 (.inr h1))⟩
      · rw [List.nodup_append, List.nodup_cons, List.nodup_cons]
        refine ⟨⟨fun hx => (hnew pa ((hmem pa).2 (.inl hx))).1 rfl, hnd2.1⟩, ⟨fun hx => (hnew pb ((hmem pb).2 (.inr hx))).2 rfl, hnd2.2.1⟩, fun x hx y hy => ?_⟩
        rcases List.mem_cons.1 hx with rfl | hx <;> rcases List.mem_cons.1 hy with rfl | hy
        · exact hpab
        · exact fun e => (hnew y ((hmem y).2 (.inr hy))).1 e.symm
        · exact (hnew x ((hmem x).2 (.inl hx))).2
        · exact hnd2.2.2 x hx y hy
      · exact chain_view (fun x hx => hkeep x ((hmem x).2 (.inl hx))) c1
      · exact chain_view (fun x hx => hkeep x ((hmem x).2 (.inr hx))) c2
      · rw [List.mem_singleton] at hy; subst hy
        exact hk _ (List.mem_of_getElem? hkey')
      · simp only [List.mem_cons, List.not_mem_nil, or_false] at ht
        rcases ht with rfl | rfl
        · show _ ≤ tok - _
          omega
        · exact hb6
    · exact .inr ⟨e1, s1, l1⟩
  · have hfit : fits (mkInner (subs.map (·.id)) keys) = true := fits_iff.2 ⟨mkInner_right (by rw [hml]; exact hlen) hkr hk hks, by show 4 + ksize keys ≤ 240; omega⟩
    have ho := store_one (disk := disk) hap subs.length id hne hfit
    rcases ho with ⟨p, ids, e1, s1, n1, l1, pg, rfl, rfl, v1⟩ | ⟨e1, s1, l1⟩
    · have hfr := s1.frame hap (C := fun x => x ∈ ids_ subs) huse
      have hkeep : ∀ x ∈ ids_ subs, (pStore room (subs.length + 1) σ id (mkInner (subs.map (·.id)) keys)).2.view disk x = σ.view disk x := fun x hx => s1.keep x (fun e => hid (e ▸ hx)) (huse x hx)
      have hnew : ∀ x ∈ ids_ subs, x ≠ pg := fun x hx => by
        have := s1.apart (huse x hx) (fun e => hid (e ▸ hx))
        simpa using this
      generalize pStore room (subs.length + 1) σ id (mkInner (subs.map (·.id)) keys) = r at *
      refine .inl ⟨_, pg :: ids_ subs, e1, hfr.congr (fun _ => Iff.rfl) (fun x => ?_), ?_, by omega, .inr ⟨[⟨pg, pg :: ids_ subs, es_ subs, tok⟩], rfl, by simp [ids_], by simp [es_], by simp [toks], ⟨subs, keys, v1, hfit, rfl, rfl, ht, h6, chain_view hkeep hch⟩, fun y hy => (by cases hy), by simp, fun hbb t ht => ?_⟩⟩
      · simp only [List.mem_cons, List.not_mem_nil, or_false]
        constructor
        · rintro (h1 | ⟨h1, _⟩)
          · exact .inl h1
          · exact .inr h1
        · rintro (h1 | h1)
          · exact .inl h1
          · exact .inr ⟨h1, fun e => hid (e ▸ h1)⟩
      · rw [List.nodup_cons]; exact ⟨fun hx => hnew pg hx rfl, hnd⟩
      · rw [List.mem_singleton] at ht; subst ht
        rcases hbb with h1 | h1
        · exact hb h1
        · simp at h1
    · exact .inr ⟨e1, s1, by omega⟩
end
end Tp
namespace Tp
open Nd En
theorem tr_ids {v : Int → Option Node} {h : Nat} {lo hi : Option Str} {s : Sub} (hs : Tr v h lo hi s) : s.ids = s.id :: s.ids.tail := by
  cases h with
  | zero => rw [hs.2.1]; rfl
  | succ h =>
    obtain ⟨subs, keys, a, b, c, _⟩ := hs
    rw [c]; rfl
theorem tr_node {v : Int → Option Node} {h : Nat} {lo hi : Option Str} {s : Sub} (hs : Tr v h lo hi s) : ∃ n, v s.id = some n ∧ fits n = true ∧ n.leaf = decide (h = 0) := by
  cases h with
  | zero => exact ⟨_, hs.1, hs.2.2.1, rfl⟩
  | succ h =>
    obtain ⟨subs, keys, a, b, c, _⟩ := hs
    exact ⟨_, a, b, rfl⟩
theorem tr_join {v v' : Int → Option Node} {h : Nat} {l hh : Option Str} {k : Str} {a b : Sub} {na nb : Node} {page : Int} (ha : Tr v h l (some k) a) (hb : Tr v h (some k) hh b) (hna : v a.id = some na) (hnb : v b.id = some nb)
    (hf : fits (join na k nb) = true) (hp : v' page = some (join na k nb)) (hv : ∀ x ∈ a.ids.tail ++ b.ids.tail, v' x = v x) : Tr v' h l hh ⟨page, page :: (a.ids.tail ++ b.ids.tail), a.es ++ b.es, a.tok + b.tok⟩ := by
  have G := tr_good v h
  have hch : Chain (Tr v h) l hh [a, b] [k] := chain_cons.2 ⟨ha, hb⟩
  have hrg := chain_range G hch
  cases h with
  | zero =>
    obtain ⟨a1, a2, a3, a4, a5, a6⟩ := ha
    obtain ⟨b1, b2, b3, b4, b5, b6⟩ := hb
    rw [a1] at hna
    rw [b1] at hnb
    injection hna with hna
    injection hnb with hnb
    subst hna hnb
    have hj : join (mkLeaf a.es) k (mkLeaf b.es) = mkLeaf (a.es ++ b.es) := rfl
    rw [hj] at hf hp
    refine ⟨hp, by rw [a2, b2]; rfl, hf, ?_, ?_, by show (a.es ++ b.es).length ≤ a.tok + b.tok; rw [List.length_append]; omega⟩
    · show a.es ++ b.es ≠ []
      simp [a4]
    · have := hrg.2.1
      simpa [es_] using this
  | succ h =>
    obtain ⟨sa, ka, a1, a2, a3, a4, a5, a6, a7⟩ := ha
    obtain ⟨sb, kb, b1, b2, b3, b4, b5, b6, b7⟩ := hb
    rw [a1] at hna
    rw [b1] at hnb
    injection hna with hna
    injection hnb with hnb
    subst hna hnb
    have hj : join (mkInner (sa.map (·.id)) ka) k (mkInner (sb.map (·.id)) kb) = mkInner ((sa ++ sb).map (·.id)) (ka ++ k :: kb) := by
      unfold join mkInner
      simp
    rw [hj] at hf hp
    rw [a3, b3] at hv
    simp only [List.tail_cons] at hv
    have va : ∀ x ∈ ids_ sa, v' x = v x := fun x hx => hv x (List.mem_append_left _ hx)
    have vb : ∀ x ∈ ids_ sb, v' x = v x := fun x hx => hv x (List.mem_append_right _ hx)
    refine ⟨sa ++ sb, ka ++ k :: kb, hp, hf, by rw [a3, b3, ids_append]; rfl, by rw [es_append]; show a.es ++ b.es = _; rw [a4, b4], by rw [toks_append]; show _ ≤ a.tok + b.tok; omega, fun t ht => ?_, chain_join (chain_view va a7) (chain_view vb b7)⟩
    rcases List.mem_append.1 ht with ht | ht
    · exact a6 t ht
    · exact b6 t ht
section
variable {room : Int} {disk : Disk} {used : List Run} {σ : Pst}
theorem step_same (hap : ApS room used σ) {C : Int → Prop} (hC : ∀ x, C x → Use used σ x) : Step room disk used σ C σ C :=
  ((Step.refl_ (disk := disk) hap).frame hap hC).congr (fun x => by simp) (fun x => by simp)
theorem sib_lt {n : Node} {i : Nat} (hi : i < n.kids.length) (h2 : 1 < n.kids.length) : sib n i + 1 < n.kids.length := by
  unfold sib
  split <;> omega
def FillQ (disk : Disk) (h : Nat) (lo hi : Option Str) (subs : List Sub) (keys : List Str) (n' : Node) (σ' : Pst) (ids : List Int) : Prop :=
  ∃ subs' keys', n' = mkInner (subs'.map (·.id)) keys' ∧ ids = ids_ subs' ∧ es_ subs' = es_ subs ∧ toks subs' = toks subs ∧ Chain (Tr (σ'.view disk) h) lo hi subs' keys' ∧ (∀ k ∈ keys', k ∈ keys) ∧ ksize keys' ≤ ksize keys ∧ (∀ t ∈ subs', 6 ^ h ≤ t.tok)
theorem fill_ok (hap : ApS room used σ) {h : Nat} {subs : List Sub} {keys : List Str} {lo hi : Option Str} (hch : Chain (Tr (σ.view disk) h) lo hi subs keys)
    (huse : ∀ x ∈ ids_ subs, Use used σ x) (hnd : (ids_ subs).Nodup) {i d : Nat} (hi' : i < subs.length) (h2 : 1 < subs.length) (hd : d < 24) (h6 : ∀ t ∈ subs, 6 ^ h ≤ t.tok) :
    Res room disk used σ (fun x => x ∈ ids_ subs) 1 (pFill room disk σ (mkInner (subs.map (·.id)) keys) i d) (FillQ disk h lo hi subs keys) := by
  have hml : (mkInner (subs.map (·.id)) keys).kids.length = subs.length := List.length_map _
  have same : Res room disk used σ (fun x => x ∈ ids_ subs) 1 (.ok (mkInner (subs.map (·.id)) keys), σ) (FillQ disk h lo hi subs keys) :=
    .inl ⟨_, ids_ subs, rfl, step_same hap huse, hnd, Nat.le_succ _, subs, keys, rfl, rfl, rfl, rfl, hch, fun _ h => h, Nat.le_refl _, h6⟩
  obtain ⟨j, hj⟩ : ∃ j, j = sib (mkInner (subs.map (·.id)) keys) i := ⟨_, rfl⟩
  have hj1 : j + 1 < subs.length := by rw [hj, ← hml]; exact sib_lt (by rw [hml]; exact hi') (by rw [hml]; exact h2)
  unfold pFill
  rw [if_neg (by omega), ← hj]
  have hkid : ∀ m (hm : m < subs.length), (mkInner (subs.map (·.id)) keys).kids.getD m 0 = (subs[m]).id := fun m hm => by
    show (subs.map (·.id)).getD m 0 = _
    rw [List.getD_eq_getElem?_getD, List.getElem?_map, List.getElem?_eq_getElem hm]; rfl
  rw [hkid i hi', hkid j (by omega), hkid (j + 1) hj1]
  obtain ⟨l0, h0, t0⟩ := chain_all hch _ (List.getElem_mem hi')
  obtain ⟨nk, ek, _, _⟩ := tr_node t0
  rw [ek]
  simp only
  by_cases hsz : 80 ≤ size nk
  · rw [if_pos hsz]; exact same
  rw [if_neg hsz]
  obtain ⟨l, hh, k, hkey, ta, tb, hrep⟩ := chain_two (tr_good _ _) hch hj1
  obtain ⟨na, ea, fa, la⟩ := tr_node ta
  obtain ⟨nb, eb, fb, lb⟩ := tr_node tb
  rw [ea]
  simp only
  rw [eb]
  simp only
  have hkd : (mkInner (subs.map (·.id)) keys).keys.getD j ⟨#[]⟩ = k := by
    show keys.getD j ⟨#[]⟩ = k
    rw [List.getD_eq_getElem?_getD, hkey]; rfl
  rw [hkd]
  by_cases hc : (na.leaf != nb.leaf) = true ∨ fits (join na k nb) = false
  · rw [if_pos hc]; exact same
  rw [if_neg hc]
  have hf : fits (join na k nb) = true := by
    cases hff : fits (join na k nb) with
    | true => rfl
    | false => exact absurd (.inr hff) hc
  have hja : subs[j]'(by omega) ∈ subs := List.getElem_mem _
  have hjb : subs[j + 1] ∈ subs := List.getElem_mem _
  have hsp : subs = subs.take j ++ (subs[j]'(by omega) :: subs[j + 1] :: subs.drop (j + 2)) := by
    rw [← List.drop_eq_getElem_cons, ← List.drop_eq_getElem_cons, List.take_append_drop]
  have ia := tr_ids ta
  have ib := tr_ids tb
  have hidl : ids_ subs = ids_ (subs.take j) ++ (((subs[j]'(by omega)).id :: (subs[j]'(by omega)).ids.tail) ++ ((subs[j + 1].id :: subs[j + 1].ids.tail) ++ ids_ (subs.drop (j + 2)))) := by
    conv => lhs; rw [hsp]
    rw [ids_append, ids_cons, ids_cons, ← ia, ← ib]
  have hesl : es_ subs = es_ (subs.take j) ++ ((subs[j]'(by omega)).es ++ (subs[j + 1].es ++ es_ (subs.drop (j + 2)))) := by
    conv => lhs; rw [hsp]
    rw [es_append, es_cons, es_cons]
  have htkl : toks subs = toks (subs.take j) + ((subs[j]'(by omega)).tok + (subs[j + 1].tok + toks (subs.drop (j + 2)))) := by
    conv => lhs; rw [hsp]
    rw [toks_append, toks_cons, toks_cons]
  have ma : (subs[j]'(by omega)).id ∈ ids_ subs := mem_ids hja (tr_id ta)
  have mb : subs[j + 1].id ∈ ids_ subs := mem_ids hjb (tr_id tb)
  have ua := huse _ ma
  have ub := huse _ mb
  have h6a := h6 _ hja
  have hmt : ∀ s, (s ∈ subs.take j ∨ s ∈ subs.drop (j + 2)) → s ∈ subs := fun s hs => by
    rcases hs with hs | hs
    · exact List.mem_of_mem_take hs
    · exact List.mem_of_mem_drop hs
  generalize subs[j]'(by omega) = a at *
  generalize subs[j + 1] = b at *
  have hnd2 := hnd
  rw [hidl, List.nodup_append, List.nodup_append, List.nodup_append, List.nodup_cons, List.nodup_cons] at hnd2
  obtain ⟨nd1, ⟨⟨na1, na2⟩, ⟨⟨nb1, nb2⟩, nd3, nb4⟩, nab⟩, nd4⟩ := hnd2
  have hab : a.id ≠ b.id := nab a.id List.mem_cons_self b.id (List.mem_append_left _ List.mem_cons_self)
  cases hs : pSave room σ a.id (join na k nb) with
  | mk r σ1 =>
    cases r with
    | error e =>
      obtain ⟨rfl, rfl, g3⟩ := save_err hap hf hs
      exact .inr ⟨rfl, hap, by omega⟩
    | ok page =>
      obtain ⟨s1, v1, _, l1⟩ := save_ok (disk := disk) hap hs
      obtain ⟨s2, l2⟩ := drop_step (disk := disk) s1.ap b.id
      have hpb : page ≠ b.id := fun e => s1.apart ub (fun h => hab h.symm) e.symm
      have hst := ((s1.comp s2).frame hap (C := fun x => x ∈ ids_ subs) huse).congr (A' := fun x => x ∈ ids_ subs) (fun x => by
        constructor
        · rintro ((h1 | ⟨h1, _⟩) | h1)
          · exact h1 ▸ ma
          · exact h1 ▸ mb
          · exact h1
        · exact .inr) (fun _ => Iff.rfl)
      have hkeep : ∀ x, x ∈ ids_ subs → x ≠ a.id → x ≠ b.id → (pDrop σ1 b.id).view disk x = σ.view disk x := fun x hx h1 h2 => by
        rw [s2.keep x h2 (s1.use (huse x hx) h1), s1.keep x h1 (huse x hx)]
      have hpn : ∀ x ∈ ids_ subs, x ≠ a.id → x ≠ page := fun x hx h1 => s1.apart (huse x hx) h1
      have vp : (pDrop σ1 b.id).view disk page = some (join na k nb) := by rw [s2.keep page hpb (s1.got rfl)]; exact v1
      have rest : ∀ x, (x ∈ ids_ (subs.take j) ∨ x ∈ a.ids.tail ∨ x ∈ b.ids.tail ∨ x ∈ ids_ (subs.drop (j + 2))) ↔ (x ∈ ids_ subs ∧ x ≠ a.id ∧ x ≠ b.id) := fun x => by
        rw [hidl]
        simp only [List.mem_append, List.mem_cons]
        constructor
        · rintro (h1 | h1 | h1 | h1)
          · exact ⟨.inl h1, nd4 x h1 _ (List.mem_append_left _ List.mem_cons_self), nd4 x h1 _ (List.mem_append_right _ (List.mem_append_left _ List.mem_cons_self))⟩
          · exact ⟨.inr (.inl (.inr h1)), fun e => na1 (e ▸ h1), nab x (List.mem_cons_of_mem _ h1) _ (List.mem_append_left _ List.mem_cons_self)⟩
          · exact ⟨.inr (.inr (.inl (.inr h1))), fun e => nab a.id List.mem_cons_self x (List.mem_append_left _ (List.mem_cons_of_mem _ h1)) e.symm, fun e => nb1 (e ▸ h1)⟩
          · exact ⟨.inr (.inr (.inr h1)), fun e => nab a.id List.mem_cons_self x (List.mem_append_right _ h1) e.symm, fun e => nb4 b.id List.mem_cons_self x h1 e.symm⟩
        · rintro ⟨h1, h2, h3⟩
          rcases h1 with h1 | (h1 | h1) | (h1 | h1) | h1
          · exact .inl h1
          · exact absurd h1 h2
          · exact .inr (.inl h1)
          · exact absurd h1 h3
          · exact .inr (.inr (.inl h1))
          · exact .inr (.inr (.inr h1))
      have hnew : Tr ((pDrop σ1 b.id).view disk) h l hh ⟨page, page :: (a.ids.tail ++ b.ids.tail), a.es ++ b.es, a.tok + b.tok⟩ :=
        tr_join ta tb ea eb hf vp (fun x hx => by
          have hr := (rest x).1 (by
            rcases List.mem_append.1 hx with hx | hx
            · exact .inr (.inl hx)
            · exact .inr (.inr (.inl hx)))
          exact hkeep x hr.1 hr.2.1 hr.2.2)
      have hidn : ids_ (subs.take j ++ [⟨page, page :: (a.ids.tail ++ b.ids.tail), a.es ++ b.es, a.tok + b.tok⟩] ++ subs.drop (j + 2)) = ids_ (subs.take j) ++ ((page :: (a.ids.tail ++ b.ids.tail)) ++ ids_ (subs.drop (j + 2))) := by
        rw [ids_append, ids_append, List.append_assoc]
        simp [ids_]
      have hpr : ∀ x, (x ∈ ids_ (subs.take j) ∨ x ∈ a.ids.tail ∨ x ∈ b.ids.tail ∨ x ∈ ids_ (subs.drop (j + 2))) → x ≠ page := fun x hx => by
        have hr := (rest x).1 hx
        exact hpn x hr.1 hr.2.1
      refine .inl ⟨_, ids_ (subs.take j ++ [⟨page, page :: (a.ids.tail ++ b.ids.tail), a.es ++ b.es, a.tok + b.tok⟩] ++ subs.drop (j + 2)), rfl, hst.congr (fun _ => Iff.rfl) (fun x => ?_), ?_, by show (pDrop σ1 b.id).mine.length ≤ _; omega,
        subs.take j ++ [⟨page, page :: (a.ids.tail ++ b.ids.tail), a.es ++ b.es, a.tok + b.tok⟩] ++ subs.drop (j + 2), keys.take j ++ keys.drop (j + 1), ?_, rfl, ?_, ?_, hrep _ _ (fun s hs l' h' ht => tr_congr (fun x hx => ?_) ht) hnew, ?_, ?_, ?_⟩
      · rw [hidn]
        have hr := rest x
        simp only [List.mem_append, List.mem_cons]
        constructor
        · rintro ((⟨h1, _⟩ | h1) | ⟨h1, h2⟩)
          · exact .inr (.inl (.inl h1))
          · exact h1.elim
          · have h3 := hr.2 ⟨h1, fun e => h2 (.inl e), fun e => h2 (.inr ⟨e, fun e2 => hpb (e2.symm.trans e)⟩)⟩
            rcases h3 with h3 | h3 | h3 | h3
            · exact .inl h3
            · exact .inr (.inl (.inr (.inl h3)))
            · exact .inr (.inl (.inr (.inr h3)))
            · exact .inr (.inr h3)
        · intro h1
          have h2 : x = page ∨ (x ∈ ids_ (subs.take j) ∨ x ∈ a.ids.tail ∨ x ∈ b.ids.tail ∨ x ∈ ids_ (subs.drop (j + 2))) := by
            rcases h1 with h1 | (h1 | h1 | h1) | h1
            · exact .inr (.inl h1)
            · exact .inl h1
            · exact .inr (.inr (.inl h1))
            · exact .inr (.inr (.inr (.inl h1)))
            · exact .inr (.inr (.inr (.inr h1)))
          rcases h2 with h2 | h2
          · exact .inl (.inl ⟨h2, fun e => hpb (h2.symm.trans e)⟩)
          · have h3 := hr.1 h2
            exact .inr ⟨h3.1, fun e => by
              rcases e with e | ⟨e, _⟩
              · exact h3.2.1 e
              · exact h3.2.2 e⟩
      · rw [hidn, List.nodup_append, List.nodup_append, List.nodup_cons, List.nodup_append]
        refine ⟨nd1, ⟨⟨fun hx => ?_, na2, nb2, fun x hx y hy => nab x (List.mem_cons_of_mem _ hx) y (List.mem_append_left _ (List.mem_cons_of_mem _ hy))⟩, nd3, fun x hx y hy => ?_⟩, fun x hx y hy => ?_⟩
        · rcases List.mem_append.1 hx with hx | hx
          · exact hpr page (.inr (.inl hx)) rfl
          · exact hpr page (.inr (.inr (.inl hx))) rfl
        · rcases List.mem_cons.1 hx with rfl | hx
          · exact fun e => hpr y (.inr (.inr (.inr hy))) e.symm
          · rcases List.mem_append.1 hx with hx | hx
            · exact nab x (List.mem_cons_of_mem _ hx) y (List.mem_append_right _ hy)
            · exact nb4 x (List.mem_cons_of_mem _ hx) y hy
        · rcases List.mem_append.1 hy with hy | hy
          · rcases List.mem_cons.1 hy with rfl | hy
            · exact hpr x (.inl hx)
            · rcases List.mem_append.1 hy with hy | hy
              · exact nd4 x hx y (List.mem_append_left _ (List.mem_cons_of_mem _ hy))
              · exact nd4 x hx y (List.mem_append_right _ (List.mem_append_left _ (List.mem_cons_of_mem _ hy)))
          · exact nd4 x hx y (List.mem_append_right _ (List.mem_append_right _ hy))
      · unfold swap
        have hkl := chain_len hch
        rw [if_neg (by
          rw [hml]
          show ¬ (false = true ∨ subs.length < j + 2 ∨ j + 2 ≤ j ∨ (0 : Nat) ≠ [page].length - 1)
          simp; omega)]
        show mkInner ((subs.map (·.id)).take j ++ [page] ++ (subs.map (·.id)).drop (j + 2)) (keys.take (if ([page] : List Int).length = 0 ∧ 0 < j then j - 1 else j) ++ [] ++ keys.drop (if ([page] : List Int).length = 0 ∧ j = 0 then min (j + 2) keys.length else j + 2 - 1)) = _
        rw [if_neg (by simp), if_neg (by simp), List.append_nil, List.map_append, List.map_append, List.map_take, List.map_drop]
        rfl
      · rw [es_append, es_append, hesl, List.append_assoc]
        simp [es_]
      · rw [toks_append, toks_append, htkl]
        simp [toks]; omega
      · have hin := hmt s hs
        have hx2 : x ∈ ids_ (subs.take j) ∨ x ∈ ids_ (subs.drop (j + 2)) := by
          rcases hs with hs | hs
          · exact .inl (mem_ids hs hx)
          · exact .inr (mem_ids hs hx)
        have hr := (rest x).1 (by
          rcases hx2 with h1 | h1
          · exact .inl h1
          · exact .inr (.inr (.inr h1)))
        exact hkeep x hr.1 hr.2.1 hr.2.2
      · intro y hy
        rcases List.mem_append.1 hy with hy | hy
        · exact List.mem_of_mem_take hy
        · exact List.mem_of_mem_drop hy
      · rw [ksize_append]
        have e1 : ksize (keys.take j) + ksize (keys.drop j) = ksize keys := by rw [← ksize_append, List.take_append_drop]
        have e2 : ksize (keys.drop (j + 1)) ≤ ksize (keys.drop j) := by
          have hjk : j < keys.length := (List.getElem?_eq_some_iff.1 hkey).1
          rw [List.drop_eq_getElem_cons hjk, ksize_cons]; omega
        omega
      · intro t ht
        rcases List.mem_append.1 ht with ht | ht
        · rcases List.mem_append.1 ht with ht | ht
          · exact h6 t (List.mem_of_mem_take ht)
          · rw [List.mem_singleton] at ht; subst ht
            show _ ≤ a.tok + b.tok
            omega
        · exact h6 t (List.mem_of_mem_drop ht)
end
end Tp
namespace Tp
open Nd En
structure GOp (g : List En.Ent → List En.Ent) (key : Str) : Prop where
  right : ∀ l, En.right l = true → En.right (g l) = true
  loc : ∀ a l b, En.right (a ++ (l ++ b)) = true → (∀ x ∈ a, lt x.1 key = true) → (∀ x ∈ b, lt key x.1 = true) → g (a ++ (l ++ b)) = a ++ (g l ++ b)
  inn : ∀ l x, x ∈ g l → x ∈ l ∨ x.1 = key
  size : ∀ l, esize (g l) ≤ esize l + 58
section
variable {room : Int} {disk : Disk} {used : List Run} {σ σ1 σ2 : Pst}
theorem Res.mono {α : Type} {A A' : Int → Prop} {N N' : Nat} {r : Except Int α × Pst} {Q Q' : α → Pst → List Int → Prop} (h : Res room disk used σ A N r Q) (hA : ∀ x, A x ↔ A' x) (hN : N ≤ N') (hQ : ∀ a σ' ids, Q a σ' ids → Q' a σ' ids) : Res room disk used σ A' N' r Q' := by
  rcases h with ⟨a, ids, e1, e2, e3, e4, e5⟩ | ⟨e1, e2, e3⟩
  · exact .inl ⟨a, ids, e1, e2.congr hA (fun _ => Iff.rfl), e3, by omega, hQ _ _ _ e5⟩
  · exact .inr ⟨e1, e2, by omega⟩
theorem Step.then_ {A B1 : Int → Prop} {C : Int → Prop} (h1 : Step room disk used σ A σ1 C) (h2 : Step room disk used σ1 C σ2 B1) : Step room disk used σ A σ2 B1 :=
  (h1.comp h2).congr (fun _ => ⟨fun h => h.elim id fun h => absurd h.1 h.2, .inl⟩) (fun _ => ⟨fun h => h.elim (fun h => absurd h.1 h.2) id, .inr⟩)
theorem Step.then2 {A B1 : Int → Prop} {C : Int → Prop} {id : Int} (h1 : Step room disk used σ A σ1 C) (h2 : Step room disk used σ1 (fun x => x = id ∨ C x) σ2 B1) (hC : ¬ C id) : Step room disk used σ (fun x => x = id ∨ A x) σ2 B1 :=
  (h1.comp h2).congr (fun x => by
    constructor
    · rintro (h | ⟨h | h, h3⟩)
      · exact .inr h
      · exact .inl h
      · exact absurd h h3
    · rintro (h | h)
      · exact .inr ⟨.inl h, h ▸ hC⟩
      · exact .inl h) (fun x => by
    constructor
    · rintro (⟨h, h2⟩ | h)
      · exact absurd (.inr h) h2
      · exact h
    · exact .inr)
theorem finish_ok {A : Int → Prop} {N : Nat} {id : Int} {h : Nat} {subs : List Sub} {keys : List Str} {lo hi : Option Str} {tok i d : Nat} {big : Prop} {p : Part}
    (s1 : Step room disk used σ A σ1 (fun x => x ∈ ids_ subs)) (hl : σ1.mine.length ≤ σ.mine.length + N) (hid : Use used σ id) (hidA : ¬ A id)
    (hch : Chain (Tr (σ1.view disk) h) lo hi subs keys) (hk : ∀ k ∈ keys, may k ⟨#[]⟩ = true) (hnd : (ids_ subs).Nodup) (hs : ksize keys ≤ 257) (ht : toks subs ≤ tok) (h6 : ∀ t ∈ subs, 6 ^ h ≤ t.tok) (hb : big → 6 ^ (h + 1) ≤ tok)
    (hi' : p.1.length = 1 → i < subs.length) (hd : d < 24) :
    Res room disk used σ (fun x => x = id ∨ A x) (N + 3) (match pFillIf room disk p σ1 (mkInner (subs.map (·.id)) keys) i d with
      | (.error e, σ2) => (.error e, σ2)
      | (.ok n2, σ2) => pStore room (fuelOf n2) σ2 id n2) (fun p σ' ids => PartsAt (σ'.view disk) (h + 1) lo hi p ids (es_ subs) tok big) := by
  have huse : ∀ x ∈ ids_ subs, Use used σ1 x := fun x hx => s1.got hx
  have hfill : Res room disk used σ1 (fun x => x ∈ ids_ subs) 1 (pFillIf room disk p σ1 (mkInner (subs.map (·.id)) keys) i d) (FillQ disk h lo hi subs keys) := by
    unfold pFillIf
    by_cases hc : p.1.length = 1 ∧ 1 < (mkInner (subs.map (·.id)) keys).kids.length
    · rw [if_pos hc]
      have h2 : 1 < subs.length := by have := hc.2; rw [show (mkInner (subs.map (·.id)) keys).kids.length = subs.length from List.length_map _] at this; exact this
      exact fill_ok s1.ap hch huse hnd (hi' hc.1) h2 hd h6
    · rw [if_neg hc]
      exact .inl ⟨_, ids_ subs, rfl, step_same s1.ap huse, hnd, Nat.le_succ _, subs, keys, rfl, rfl, rfl, rfl, hch, fun _ h => h, Nat.le_refl _, h6⟩
  generalize pFillIf room disk p σ1 (mkInner (subs.map (·.id)) keys) i d = r at *
  obtain ⟨r, σ2⟩ := r
  rcases hfill with ⟨n2, ids2, e1, s2, n2d, l2, subs', keys', rfl, rfl, q1, q2, q3, q4, q5, q6⟩ | ⟨e1, s2, l2⟩
  · simp only at e1 s2 l2 q3
    subst e1
    simp only
    have s12 := s1.then_ s2
    have hid2 : id ∉ ids_ subs' := s12.apart hid hidA
    have hst := store_inner (disk := disk) s12.ap id (tok := tok) (big := big) q3 (fun k hk2 => hk k (q4 k hk2)) (fun x hx => s12.got hx) n2d hid2 (by omega) (by omega) q6 hb
    generalize pStore room (fuelOf (mkInner (subs'.map (·.id)) keys')) σ2 id (mkInner (subs'.map (·.id)) keys') = r3 at *
    rcases hst with ⟨p3, ids3, e3, s3, n3, l3, q7⟩ | ⟨e3, s3, l3⟩
    · exact .inl ⟨p3, ids3, e3, s12.then2 s3 hid2, n3, by omega, by rw [← q1]; exact q7⟩
    · exact .inr ⟨e3, s3, by omega⟩
  · simp only at e1 s2 l2
    subst e1
    exact .inr ⟨rfl, s2, by omega⟩
theorem getD_kid {subs : List Sub} {i : Nat} (hi : i < subs.length) : (subs.map (·.id)).getD i 0 = (subs[i]).id := by
  rw [List.getD_eq_getElem?_getD, List.getElem?_map, List.getElem?_eq_getElem hi]; rfl
theorem change_ok {g : List En.Ent → List En.Ent} {key : Str} (GO : GOp g key) (δ : Nat) : ∀ (h f : Nat) (σ : Pst) (lo hi : Option Str) (s : Sub) (big : Prop), h < f → f ≤ 24 → ApS room used σ → Tr (σ.view disk) h lo hi s → s.ids.Nodup → (∀ x ∈ s.ids, Use used σ x) → gtLo lo key → ltHi hi key → (big → 6 ^ h ≤ s.tok) → (g s.es).length ≤ s.es.length + δ →
    Res room disk used σ (fun x => x ∈ s.ids) (3 * (h + 1)) (pChange room disk g key f σ s.id) (fun p σ' ids => PartsAt (σ'.view disk) h lo hi p ids (g s.es) (s.tok + δ) big)
  | 0, f + 1, σ, lo, hi, s, big, _, _, hap, ht, hnd, huse, hk1, hk2, hb, hd => by
    obtain ⟨a1, a2, a3, a4, a5, a6⟩ := ht
    unfold pChange
    rw [a1]
    simp only
    rw [if_pos (show (mkLeaf s.es).leaf = true from rfl)]
    have hr := (right_leaf.1 (fits_iff.1 a3).1).1
    have hsz : esize s.es ≤ 240 := (fits_iff.1 a3).2
    have hst := store_leaf (disk := disk) hap s.id (l := g s.es) (lo := lo) (hi := hi) (tok := s.tok + δ) (big := big) (GO.right _ hr) (fun x hx => by
      rcases GO.inn _ x hx with h1 | h1
      · exact a5 x h1
      · rw [h1]; exact ⟨hk1, hk2⟩) (by have := GO.size s.es; omega) (by omega)
    exact hst.mono (fun x => by rw [a2]; simp) (by omega) (fun _ _ _ h => h)
  | h + 1, f + 1, σ, lo, hi, s, big, hf, hf24, hap, ht, hnd, huse, hk1, hk2, hb, hd => by
    have G := tr_good (σ.view disk) h
    have G1 := tr_good (σ.view disk) (h + 1)
    have hrs := G1.srt ht
    obtain ⟨subs, keys, a1, a2, a3, a4, a5, a6, a7⟩ := ht
    obtain ⟨hrt, hsz⟩ := fits_iff.1 a2
    obtain ⟨_, r2, _, r4⟩ := right_inner.1 hrt
    have hkm := ((keys_iff _).1 r4).1
    have hks := ((keys_iff _).1 r4).2
    have hlen := chain_len a7
    have hci := child_le keys key
    obtain ⟨i, hi0⟩ : ∃ i, i = child keys key := ⟨_, rfl⟩
    have hi' : i < subs.length := by omega
    unfold pChange
    rw [a1]
    simp only
    rw [if_neg (show ¬ (mkInner (subs.map (·.id)) keys).leaf = true by simp [mkInner])]
    rw [show (mkInner (subs.map (·.id)) keys).keys = keys from rfl, ← hi0, show (mkInner (subs.map (·.id)) keys).kids = subs.map (·.id) from rfl, getD_kid hi']
    obtain ⟨l, hh, ti, c1, c2, hrep, hloc, hcb⟩ := chain_at G a7 hi'
    obtain ⟨kl, kh⟩ := hcb key hi0.symm hk1 hk2
    rw [a3, List.nodup_cons] at hnd
    obtain ⟨hidn, hnd⟩ := hnd
    have hsp : subs = subs.take i ++ (subs[i] :: subs.drop (i + 1)) := by rw [← List.drop_eq_getElem_cons, List.take_append_drop]
    have hidl : ids_ subs = ids_ (subs.take i) ++ ((subs[i]).ids ++ ids_ (subs.drop (i + 1))) := by
      conv => lhs; rw [hsp]
      rw [ids_append, ids_cons]
    have hesl : es_ subs = es_ (subs.take i) ++ ((subs[i]).es ++ es_ (subs.drop (i + 1))) := by
      conv => lhs; rw [hsp]
      rw [es_append, es_cons]
    have htkl : toks subs = toks (subs.take i) + ((subs[i]).tok + toks (subs.drop (i + 1))) := by
      conv => lhs; rw [hsp]
      rw [toks_append, toks_cons]
    have hi6 := a6 _ (List.getElem_mem hi')
    have hnd2 := hnd
    rw [hidl, List.nodup_append, List.nodup_append] at hnd2
    obtain ⟨nd1, ⟨nd2, nd3, nd4⟩, nd5⟩ := hnd2
    have hmi : ∀ x ∈ (subs[i]).ids, x ∈ ids_ subs := fun x hx => mem_ids (List.getElem_mem hi') hx
    have hui : ∀ x ∈ ids_ subs, Use used σ x := fun x hx => huse x (by rw [a3]; exact List.mem_cons_of_mem _ hx)
    have hus : Use used σ s.id := huse s.id (by rw [a3]; exact List.mem_cons_self)
    have hge : g s.es = es_ (subs.take i) ++ (g (subs[i]).es ++ es_ (subs.drop (i + 1))) := by
      rw [a4, hesl]
      refine GO.loc _ _ _ (by rw [← hesl, ← a4]; exact hrs) (hloc key kl kh).1 (hloc key kl kh).2
    have ih := change_ok GO δ h f σ l hh subs[i] True (by omega) (by omega) hap ti nd2 (fun x hx => hui x (hmi x hx)) kl kh (fun _ => hi6) (by
      have e1 := hd
      rw [hge, a4, hesl] at e1
      simp only [List.length_append] at e1
      omega)
    generalize subs[i] = t at *
    generalize pChange room disk g key f σ t.id = r at *
    obtain ⟨r, σ1⟩ := r
    rcases ih with ⟨p, ids1, e1, s1, n1, l1, q⟩ | ⟨e1, s1, l1⟩
    · simp only at e1 s1 l1 q
      subst e1
      simp only
      have hoth : ∀ x, (x ∈ ids_ (subs.take i) ∨ x ∈ ids_ (subs.drop (i + 1))) → x ∈ ids_ subs ∧ x ∉ t.ids := fun x hx => by
        rw [hidl]
        rcases hx with hx | hx
        · exact ⟨List.mem_append_left _ hx, fun h2 => nd5 x hx x (List.mem_append_left _ h2) rfl⟩
        · exact ⟨List.mem_append_right _ (List.mem_append_right _ hx), fun h2 => nd4 x h2 x hx rfl⟩
      have hfr := s1.frame hap (C := fun x => x ∈ ids_ subs) hui
      have hkeep : ∀ x, (x ∈ ids_ (subs.take i) ∨ x ∈ ids_ (subs.drop (i + 1))) → σ1.view disk x = σ.view disk x := fun x hx => s1.keep x (hoth x hx).2 (hui x (hoth x hx).1)
      have hap1 : ∀ x, (x ∈ ids_ (subs.take i) ∨ x ∈ ids_ (subs.drop (i + 1))) → x ∉ ids1 := fun x hx => s1.apart (hui x (hoth x hx).1) (hoth x hx).2
      have hA : ∀ x, (x ∈ t.ids ∨ x ∈ ids_ subs) ↔ x ∈ ids_ subs := fun x => ⟨fun h => h.elim (hmi x) (fun h => h), .inr⟩
      have hB : ∀ x, (x ∈ ids1 ∨ (x ∈ ids_ subs ∧ x ∉ t.ids)) ↔ (x ∈ ids_ (subs.take i) ∨ x ∈ ids1 ∨ x ∈ ids_ (subs.drop (i + 1))) := fun x => by
        rw [hidl, List.mem_append, List.mem_append]
        constructor
        · rintro (h1 | ⟨h1 | h1 | h1, h2⟩)
          · exact .inr (.inl h1)
          · exact .inl h1
          · exact absurd h1 h2
          · exact .inr (.inr h1)
        · rintro (h1 | h1 | h1)
          · exact .inr ⟨.inl h1, (hoth x (.inl h1)).2⟩
          · exact .inl h1
          · exact .inr ⟨.inr (.inr h1), (hoth x (.inr h1)).2⟩
      have hin : ∀ x, (x = s.id ∨ x ∈ ids_ subs) ↔ x ∈ s.ids := fun x => by rw [a3, List.mem_cons]
      have hkz : ksize keys ≤ 236 := by have : 4 + ksize keys ≤ 240 := hsz; omega
      have hb' : big → 6 ^ (h + 1) ≤ s.tok + δ := fun hbb => by have := hb hbb; omega
      have hnotleaf : ¬ (mkInner (subs.map (·.id)) keys).leaf = true := by simp [mkInner]
      have hkl1 : (mkInner (subs.map (·.id)) keys).kids.length = subs.length := List.length_map _
      have hktd : ksize (keys.take i) + ksize (keys.drop i) = ksize keys := by rw [← ksize_append, List.take_append_drop]
      rcases q with ⟨rfl, rfl, q3⟩ | ⟨sp, q1, rfl, q3, q4, q5, q6, q7, q8⟩
      · 
        have hsw : swap (mkInner (subs.map (·.id)) keys) i (i + 1) [] [] = mkInner ((subs.take i ++ subs.drop (i + 1)).map (·.id)) (keys.take (if 0 < i then i - 1 else i) ++ keys.drop (if i = 0 then min 1 keys.length else i)) := by
          unfold swap
          rw [if_neg (by rw [hkl1]; simp [mkInner]; omega)]
          show mkInner ((subs.map (·.id)).take i ++ [] ++ (subs.map (·.id)).drop (i + 1)) (keys.take (if ([] : List Int).length = 0 ∧ 0 < i then i - 1 else i) ++ [] ++ keys.drop (if ([] : List Int).length = 0 ∧ i = 0 then min (i + 1) keys.length else i + 1 - 1)) = _
          rw [List.append_nil, List.append_nil, List.map_append, List.map_take, List.map_drop]
          congr 2
          · by_cases hi1 : 0 < i
            · rw [if_pos ⟨rfl, hi1⟩, if_pos hi1]
            · rw [if_neg (fun h => hi1 h.2), if_neg hi1]
          · by_cases hi1 : i = 0
            · subst hi1; rw [if_pos ⟨rfl, rfl⟩, if_pos rfl]
            · rw [if_neg (fun h => hi1 h.2), if_neg hi1]; rfl
        rw [hsw]
        rw [q3, List.nil_append, ← es_append] at hge
        have hst1 : Step room disk used σ (fun x => x ∈ ids_ subs) σ1 (fun x => x ∈ ids_ (subs.take i ++ subs.drop (i + 1))) := hfr.congr hA (fun x => by
          rw [hB, ids_append, List.mem_append]; simp)
        have hnd1 : (ids_ (subs.take i ++ subs.drop (i + 1))).Nodup := by
          rw [ids_append, List.nodup_append]
          exact ⟨nd1, nd3, fun x hx y hy => nd5 x hx y (List.mem_append_right _ hy)⟩
        by_cases h1 : subs.length = 1
        · have e0 : i = 0 := by omega
          subst e0
          have en : subs.take 0 ++ subs.drop (0 + 1) = [] := by rw [List.drop_of_length_le (by omega)]; rfl
          rw [en] at hge hst1
          rw [en]
          have hk0 : keys = [] := List.eq_nil_of_length_eq_zero (by omega)
          subst hk0
          have e2 : pFillIf room disk ([], []) σ1 (mkInner (([] : List Sub).map (·.id)) (([] : List Str).take (if 0 < 0 then 0 - 1 else 0) ++ ([] : List Str).drop (if 0 = 0 then min 1 ([] : List Str).length else 0))) 0 (24 - f) = (.ok (mkInner [] []), σ1) := by
            unfold pFillIf
            rw [if_neg (by simp)]
            simp
          rw [e2]
          simp only
          obtain ⟨d1, d2⟩ := drop_step (disk := disk) hst1.ap s.id
          have hid0 : s.id ∉ ids_ ([] : List Sub) := by simp [ids_]
          have hdd : Step room disk used σ1 (fun x => x = s.id ∨ x ∈ ids_ ([] : List Sub)) (pDrop σ1 s.id) (fun x => x ∈ ([] : List Int)) := d1.congr (fun x => by simp [ids_]) (fun x => by simp)
          refine .inl ⟨([], []), [], ?_, (hst1.then2 hdd hid0).congr hin (fun _ => Iff.rfl), List.nodup_nil, ?_, .inl ⟨rfl, rfl, ?_⟩⟩
          · unfold pStore fuelOf mkInner; simp
          · show (pStore room (fuelOf (mkInner [] [])) σ1 s.id (mkInner [] [])).2.mine.length ≤ _
            have : (pStore room (fuelOf (mkInner [] [])) σ1 s.id (mkInner [] [])).2 = pDrop σ1 s.id := by unfold pStore fuelOf mkInner; simp
            rw [this]; omega
          · rw [hge]; rfl
        · have hcd := chain_del G a7 hi' (by omega)
          have hcd1 : Chain (Tr (σ1.view disk) h) lo hi (subs.take i ++ subs.drop (i + 1)) (keys.take (if 0 < i then i - 1 else i) ++ keys.drop (if i = 0 then 1 else i)) := chain_view (fun x hx => hkeep x (by rw [ids_append, List.mem_append] at hx; exact hx)) hcd
          have emin : (if i = 0 then min 1 keys.length else i) = (if i = 0 then 1 else i) := by
            by_cases hi1 : i = 0
            · rw [if_pos hi1, if_pos hi1]; omega
            · rw [if_neg hi1, if_neg hi1]
          rw [emin]
          have hkk : ∀ k ∈ keys.take (if 0 < i then i - 1 else i) ++ keys.drop (if i = 0 then 1 else i), k ∈ keys := fun k hk => by
            rcases List.mem_append.1 hk with hk | hk
            · exact List.mem_of_mem_take hk
            · exact List.mem_of_mem_drop hk
          have hkz2 : ksize (keys.take (if 0 < i then i - 1 else i) ++ keys.drop (if i = 0 then 1 else i)) ≤ 257 := by
            have s1 : ∀ m, ksize (keys.take m) ≤ ksize keys := fun m => by
              have : ksize (keys.take m) + ksize (keys.drop m) = ksize keys := by rw [← ksize_append, List.take_append_drop]
              omega
            have s2 : ksize (keys.take (i - 1)) ≤ ksize (keys.take i) := by
              have : (keys.take i).take (i - 1) = keys.take (i - 1) := by rw [List.take_take, Nat.min_eq_left (by omega)]
              rw [← this]
              have e : ksize ((keys.take i).take (i - 1)) + ksize ((keys.take i).drop (i - 1)) = ksize (keys.take i) := by rw [← ksize_append, List.take_append_drop]
              omega
            have s3 : ksize (keys.drop 1) ≤ ksize keys := by
              have : ksize (keys.take 1) + ksize (keys.drop 1) = ksize keys := by rw [← ksize_append, List.take_append_drop]
              omega
            rw [ksize_append]
            by_cases hi1 : i = 0
            · subst hi1
              rw [if_neg (by omega), if_pos rfl]
              have : ksize (keys.take 0) = 0 := by simp [ksize]
              omega
            · rw [if_pos (by omega), if_neg hi1]; omega
          have hfin := finish_ok (N := 3 * (h + 1)) (id := s.id) (tok := s.tok + δ) (big := big) (i := i) (d := 24 - f) (p := ([], [])) hst1 l1 hus hidn hcd1 (fun k hk => hkm k (hkk k hk)) hnd1 hkz2 (by rw [toks_append]; omega) (fun u hu => by
            rcases List.mem_append.1 hu with hu | hu
            · exact a6 u (List.mem_of_mem_take hu)
            · exact a6 u (List.mem_of_mem_drop hu)) hb' (fun h => by simp at h) (by omega)
          exact hfin.mono hin (by omega) (fun a σ' ids hq => by rw [hge]; exact hq)
      · 
        have hpl := chain_len q5
        have hp2 : p.2.length = p.1.length - 1 := by rw [q1, List.length_map]; omega
        have hp0 : 0 < p.1.length := by rw [q1, List.length_map]; omega
        have hsw : swap (mkInner (subs.map (·.id)) keys) i (i + 1) p.1 p.2 = mkInner ((subs.take i ++ sp ++ subs.drop (i + 1)).map (·.id)) (keys.take i ++ p.2 ++ keys.drop i) := by
          unfold swap
          rw [if_neg (by rw [hkl1]; simp [mkInner]; omega)]
          show mkInner ((subs.map (·.id)).take i ++ p.1 ++ (subs.map (·.id)).drop (i + 1)) (keys.take (if p.1.length = 0 ∧ 0 < i then i - 1 else i) ++ p.2 ++ keys.drop (if p.1.length = 0 ∧ i = 0 then min (i + 1) keys.length else i + 1 - 1)) = _
          rw [if_neg (by omega), if_neg (by omega), q1, List.map_append, List.map_append, List.map_take, List.map_drop]
          rfl
        rw [hsw]
        have hch1 := hrep (Tr (σ1.view disk) h) sp p.2 (fun u hu l' h' hT => tr_congr (fun x hx => hkeep x (by
          rcases hu with hu | hu
          · exact .inl (mem_ids hu hx)
          · exact .inr (mem_ids hu hx))) hT) q5
        have hes1 : es_ (subs.take i ++ sp ++ subs.drop (i + 1)) = g s.es := by rw [es_append, es_append, hge, q3, List.append_assoc]
        have hst1 : Step room disk used σ (fun x => x ∈ ids_ subs) σ1 (fun x => x ∈ ids_ (subs.take i ++ sp ++ subs.drop (i + 1))) := hfr.congr hA (fun x => by
          rw [hB, ids_append, ids_append, List.mem_append, List.mem_append, or_assoc])
        have hnd1 : (ids_ (subs.take i ++ sp ++ subs.drop (i + 1))).Nodup := by
          rw [ids_append, ids_append, List.nodup_append, List.nodup_append]
          refine ⟨⟨nd1, n1, fun x hx y hy e => hap1 x (.inl hx) (e ▸ hy)⟩, nd3, fun x hx y hy => ?_⟩
          rcases List.mem_append.1 hx with hx | hx
          · exact nd5 x hx y (List.mem_append_right _ hy)
          · exact fun e => hap1 y (.inr hy) (e ▸ hx)
        have hpz : ksize p.2 ≤ 21 := by
          have := ksize_may q6
          have : p.2.length ≤ 1 := by rw [hp2, q1, List.length_map]; omega
          omega
        have hfin := finish_ok (N := 3 * (h + 1)) (id := s.id) (tok := s.tok + δ) (big := big) (i := i) (d := 24 - f) (p := p) hst1 l1 hus hidn hch1 (fun k hk => by
          rcases List.mem_append.1 hk with hk | hk
          · rcases List.mem_append.1 hk with hk | hk
            · exact hkm k (List.mem_of_mem_take hk)
            · exact q6 k hk
          · exact hkm k (List.mem_of_mem_drop hk)) hnd1 (by rw [ksize_append, ksize_append]; omega) (by rw [toks_append, toks_append]; omega) (fun u hu => by
          rcases List.mem_append.1 hu with hu | hu
          · rcases List.mem_append.1 hu with hu | hu
            · exact a6 u (List.mem_of_mem_take hu)
            · exact q8 (.inl trivial) u hu
          · exact a6 u (List.mem_of_mem_drop hu)) hb' (fun _ => (by
          rw [List.length_append, List.length_append, List.length_take]
          have : 0 < sp.length := by rw [q1, List.length_map] at hp0; exact hp0
          omega)) (by omega)
        exact hfin.mono hin (by omega) (fun a σ' ids hq => by rw [← hes1]; exact hq)
    · simp only at e1 s1 l1
      subst e1
      exact .inr ⟨rfl, s1, by omega⟩
end
end Tp
namespace Tp
open Nd En
def RootAt (disk : Disk) (used : List Run) (σ : Pst) (root : Int) (es : List En.Ent) (tok : Nat) (ids : List Int) : Prop :=
  (root = 0 ∧ es = [] ∧ ids = []) ∨ ∃ h s, s.id = root ∧ s.ids = ids ∧ s.es = es ∧ s.tok ≤ tok ∧ Tr (σ.view disk) h none none s ∧ ids.Nodup ∧ (∀ x ∈ ids, Use used σ x) ∧ (h = 0 ∨ 2 * 6 ^ (h - 1) ≤ s.tok)
theorem low_of {h t : Nat} (h1 : h = 0 ∨ 2 * 6 ^ (h - 1) ≤ t) (h2 : t ≤ 1000000) : h ≤ 8 := by
  by_cases hh : h ≤ 8
  · exact hh
  · rcases h1 with h1 | h1
    · omega
    · have : 6 ^ 8 ≤ 6 ^ (h - 1) := Nat.pow_le_pow_right (by decide) (by omega)
      have e : (6 : Nat) ^ 8 = 1679616 := by decide
      omega
section
variable {room : Int} {disk : Disk} {used : List Run} {σ : Pst}
theorem shrink_ok : ∀ (h f : Nat) (σ : Pst) (s : Sub), h < f → ApS room used σ → Tr (σ.view disk) h none none s → s.ids.Nodup → (∀ x ∈ s.ids, Use used σ x) →
    ∃ id' σ' ids', pShrink disk f σ s.id = (.ok id', σ') ∧ Step room disk used σ (fun x => x ∈ s.ids) σ' (fun x => x ∈ ids') ∧ ids'.Nodup ∧ σ'.mine.length ≤ σ.mine.length ∧ RootAt disk used σ' id' s.es s.tok ids'
  | 0, f + 1, σ, s, _, hap, ht, hnd, huse => by
    refine ⟨s.id, σ, s.ids, ?_, step_same hap huse, hnd, Nat.le_refl _, .inr ⟨0, s, rfl, rfl, rfl, Nat.le_refl _, ht, hnd, huse, .inl rfl⟩⟩
    unfold pShrink
    rw [ht.1]
    simp only
    rw [if_pos (.inl rfl)]
  | h + 1, f + 1, σ, s, hf, hap, ht, hnd, huse => by
    have ht0 := ht
    obtain ⟨subs, keys, a1, a2, a3, a4, a5, a6, a7⟩ := ht
    unfold pShrink
    rw [a1]
    simp only
    have hkl : (mkInner (subs.map (·.id)) keys).kids.length = subs.length := List.length_map _
    by_cases hc : 1 < subs.length
    · rw [if_pos (.inr (by rw [hkl]; exact hc))]
      refine ⟨s.id, σ, s.ids, rfl, step_same hap huse, hnd, Nat.le_refl _, .inr ⟨h + 1, s, rfl, rfl, rfl, Nat.le_refl _, ht0, hnd, huse, .inr ?_⟩⟩
      have hg := toks_ge (subs := subs) (m := 6 ^ h) a6
      have : 2 * 6 ^ h ≤ subs.length * 6 ^ h := Nat.mul_le_mul_right _ (by omega)
      rw [Nat.add_one_sub_one]
      omega
    · have hne := chain_ne a7
      obtain ⟨t, rfl⟩ : ∃ t, subs = [t] := by
        cases subs with
        | nil => exact absurd rfl hne
        | cons t r =>
          cases r with
          | nil => exact ⟨t, rfl⟩
          | cons u r => simp at hc
      have hk0 : keys = [] := List.eq_nil_of_length_eq_zero (by have := chain_len a7; simp only [List.length_cons, List.length_nil] at this; omega)
      subst hk0
      rw [if_neg (by simp [mkInner])]
      show ∃ id' σ' ids', pShrink disk f (pDrop σ s.id) t.id = (.ok id', σ') ∧ _
      have e1 : ids_ [t] = t.ids := by simp [ids_]
      have e2 : es_ [t] = t.es := by simp [es_]
      have e3 : toks [t] = t.tok := by simp [toks]
      rw [e1] at a3
      rw [e2] at a4
      rw [e3] at a5
      rw [a3, List.nodup_cons] at hnd
      obtain ⟨d1, d2⟩ := drop_step (disk := disk) hap s.id
      have hut : ∀ x ∈ t.ids, Use used σ x := fun x hx => huse x (by rw [a3]; exact List.mem_cons_of_mem _ hx)
      have hne2 : ∀ x ∈ t.ids, x ≠ s.id := fun x hx e => hnd.1 (e ▸ hx)
      have htr : Tr ((pDrop σ s.id).view disk) h none none t := tr_congr (fun x hx => d1.keep x (hne2 x hx) (hut x hx)) a7
      obtain ⟨id', σ', ids', g1, g2, g3, g4, g5⟩ := shrink_ok h f (pDrop σ s.id) t (by omega) d1.ap htr hnd.2 (fun x hx => d1.use (hut x hx) (hne2 x hx))
      have hfr := (d1.frame hap (C := fun x => x ∈ t.ids) hut).congr (A' := fun x => x = s.id ∨ x ∈ t.ids) (A1' := fun x => x ∈ t.ids) (fun _ => Iff.rfl) (fun x => ⟨fun h => h.elim (fun h => h.elim) (fun h => h.1), fun h => .inr ⟨h, hne2 x h⟩⟩)
      refine ⟨id', σ', ids', g1, (hfr.then_ g2).congr (fun x => by rw [a3, List.mem_cons]) (fun _ => Iff.rfl), g3, by omega, ?_⟩
      rw [a4]
      rcases g5 with h1 | ⟨h2, s2, q1, q2, q3, q4, q5⟩
      · exact .inl h1
      · exact .inr ⟨h2, s2, q1, q2, q3, by omega, q5⟩
theorem grow_ok (hap : ApS room used σ) {h : Nat} {p : Part} {ids : List Int} {es : List En.Ent} {tok : Nat} {big : Prop} (hp : PartsAt (σ.view disk) h none none p ids es tok big) (hh : h ≤ 20) (hnd : ids.Nodup) (huse : ∀ x ∈ ids, Use used σ x) :
    Res room disk used σ (fun x => x ∈ ids) 1 (pGrow room disk (p.1.length + 1) σ p) (fun root σ' ids' => RootAt disk used σ' root es tok ids') := by
  rcases hp with ⟨rfl, rfl, rfl⟩ | ⟨subs, q1, rfl, rfl, q4, q5, q6, q7, q8⟩
  · unfold pGrow
    rw [if_neg (by simp)]
    exact .inl ⟨0, [], rfl, step_same hap huse, hnd, Nat.le_succ _, .inl ⟨rfl, rfl, rfl⟩⟩
  · have hpl : p.1.length = subs.length := by rw [q1, List.length_map]
    have hne := chain_ne q5
    have hcl := chain_len q5
    by_cases h1 : subs.length = 1
    · obtain ⟨t, rfl⟩ : ∃ t, subs = [t] := List.length_eq_one_iff.1 h1
      have e1 : ids_ [t] = t.ids := by simp [ids_]
      have e2 : es_ [t] = t.es := by simp [es_]
      have e3 : toks [t] = t.tok := by simp [toks]
      rw [e1] at hnd huse ⊢
      rw [e2]
      rw [e3] at q4
      have hk0 : p.2 = [] := List.eq_nil_of_length_eq_zero (by omega)
      rw [hk0] at q5
      unfold pGrow
      rw [if_neg (by omega), q1]
      simp only [List.map_cons, List.map_nil]
      obtain ⟨id', σ', ids', g1, g2, g3, g4, g5⟩ := shrink_ok h 24 σ t (by omega) hap q5 hnd huse
      rw [g1]
      refine .inl ⟨id', ids', rfl, g2, g3, by show σ'.mine.length ≤ _; omega, ?_⟩
      rcases g5 with h1 | ⟨h2, s2, w1, w2, w3, w4, w5⟩
      · exact .inl h1
      · exact .inr ⟨h2, s2, w1, w2, w3, by omega, w5⟩
    · have h2 : subs.length = 2 := by
        have : subs.length ≠ 0 := fun e => hne (List.eq_nil_of_length_eq_zero e)
        omega
      have h6 := q8 (.inr h1)
      have hks := (chain_range (tr_good _ _) q5).2.2.2.1
      have hkz := ksize_may q6
      have hk1 : p.2.length = 1 := by omega
      have hkr := kids_range hap q5 huse
      have hfit : fits (mkInner p.1 p.2) = true := fits_iff.2 ⟨mkInner_right (by omega) (by rw [q1]; exact hkr) q6 hks, by show 4 + ksize p.2 ≤ 240; rw [hk1] at hkz; omega⟩
      unfold pGrow
      rw [if_pos (by omega)]
      have ho := store_one (disk := disk) hap p.1.length 0 (n := mkInner p.1 p.2) (by show 0 + p.1.length ≠ 0; omega) hfit
      generalize pStore room (p.1.length + 1) σ 0 (mkInner p.1 p.2) = r at *
      obtain ⟨r, σ1⟩ := r
      rcases ho with ⟨q, ids1, e1, s1, n1, l1, pg, rfl, rfl, v1⟩ | ⟨e1, s1, l1⟩
      · simp only at e1 s1 l1 v1
        subst e1
        simp only
        have hz : ∀ x ∈ ids_ subs, x ≠ 0 := fun x hx e => by have := use_range hap (huse x hx); omega
        have hkeep : ∀ x ∈ ids_ subs, σ1.view disk x = σ.view disk x := fun x hx => s1.keep x (hz x hx) (huse x hx)
        have hpg : pg ∉ ids_ subs := fun hx => s1.apart (huse pg hx) (hz pg hx) (by simp)
        have htr : Tr (σ1.view disk) (h + 1) none none ⟨pg, pg :: ids_ subs, es_ subs, tok⟩ := ⟨subs, p.2, by rw [v1, q1], by rw [← q1]; exact hfit, rfl, rfl, q4, h6, chain_view hkeep q5⟩
        have hnd1 : (pg :: ids_ subs).Nodup := List.nodup_cons.2 ⟨hpg, hnd⟩
        have hst : Step room disk used σ (fun x => x ∈ ids_ subs) σ1 (fun x => x ∈ pg :: ids_ subs) := ((s1.frame hap (C := fun x => x ∈ ids_ subs) huse).shrink (A2 := fun x => x ∈ ids_ subs) (fun x hx hx2 hu => by
          rcases hx with hx | hx
          · exact no_zero hap (by omega) hu
          · exact hx2 hx) (fun x hx => .inr hx)).congr (fun _ => Iff.rfl) (fun x => by
          simp only [List.mem_cons, List.not_mem_nil, or_false]
          constructor
          · rintro (h1 | ⟨h1, _⟩)
            · exact .inl h1
            · exact .inr h1
          · rintro (h1 | h1)
            · exact .inl h1
            · exact .inr ⟨h1, hz x h1⟩)
        obtain ⟨f, hf⟩ : ∃ f, p.1.length = f + 1 := ⟨p.1.length - 1, by omega⟩
        rw [hf]
        unfold pGrow
        rw [if_neg (by simp)]
        simp only
        obtain ⟨id', σ', ids', g1, g2, g3, g4, g5⟩ := shrink_ok (h + 1) 24 σ1 ⟨pg, pg :: ids_ subs, es_ subs, tok⟩ (by omega) s1.ap htr hnd1 (fun x hx => hst.got hx)
        simp only at g1
        rw [g1]
        exact .inl ⟨id', ids', rfl, hst.then_ g2, g3, by show σ'.mine.length ≤ _; omega, g5⟩
      · simp only at e1 s1 l1
        subst e1
        exact .inr ⟨rfl, s1, by omega⟩
theorem update_ok {g : List En.Ent → List En.Ent} {key : Str} (GO : GOp g key) (hap : ApS room used σ) {root : Int} {es : List En.Ent} {tok : Nat} {ids : List Int} (hr : RootAt disk used σ root es tok ids) (ht : tok ≤ 1000000) (δ : Nat) (hd : (g es).length ≤ es.length + δ) :
    Res room disk used σ (fun x => x ∈ ids) 40 (pUpdate room disk g key σ root) (fun root' σ' ids' => RootAt disk used σ' root' (g es) (tok + δ) ids') := by
  have hfirst : ∃ h, h ≤ 20 ∧ Res room disk used σ (fun x => x ∈ ids) 30 (pFirst room disk g key σ root) (fun p σ' ids => PartsAt (σ'.view disk) h none none p ids (g es) (tok + δ) False) := by
    unfold pFirst
    rcases hr with ⟨rfl, rfl, rfl⟩ | ⟨h, s, rfl, rfl, rfl, q4, q5, q6, q7, q8⟩
    · refine ⟨0, by omega, ?_⟩
      rw [if_pos rfl]
      have hst := store_leaf (disk := disk) hap 0 (l := g []) (lo := none) (hi := none) (tok := tok + δ) (big := False) (GO.right _ rfl) (fun x _ => ⟨(fun a h => by cases h), (fun a h => by cases h)⟩) (by have := GO.size []; simp [esize] at this ⊢; omega) (by simp at hd; omega)
      rcases hst with ⟨a, ids1, e1, s1, n1, l1, q⟩ | ⟨e1, s1, l1⟩
      · exact .inl ⟨a, ids1, e1, s1.shrink (fun x hx _ hu => no_zero hap (by omega) hu) (fun x hx => by simp at hx), n1, by omega, q⟩
      · exact .inr ⟨e1, s1, by omega⟩
    · have h8 := low_of q8 (by omega)
      have hz : s.id ≠ 0 := fun e => by
        have := use_range hap (q7 s.id (tr_id q5))
        omega
      refine ⟨h, by omega, ?_⟩
      rw [if_neg hz]
      have hc := change_ok GO δ h 24 σ none none s False (by omega) (by omega) hap q5 q6 q7 (fun a h => by cases h) (fun a h => by cases h) (fun h => h.elim) hd
      refine hc.mono (fun _ => Iff.rfl) (by omega) fun p σ' ids1 hq => ?_
      rcases hq with h1 | ⟨subs, w1, w2, w3, w4, w5⟩
      · exact .inl h1
      · exact .inr ⟨subs, w1, w2, w3, by omega, w5⟩
  obtain ⟨h, hh, hf⟩ := hfirst
  unfold pUpdate
  generalize pFirst room disk g key σ root = r at *
  obtain ⟨r, σ1⟩ := r
  rcases hf with ⟨p, ids1, e1, s1, n1, l1, q⟩ | ⟨e1, s1, l1⟩
  · simp only at e1 s1 l1 q
    subst e1
    simp only
    have hg := grow_ok s1.ap q hh n1 (fun x hx => s1.got hx)
    rcases hg with ⟨a, ids2, e2, s2, n2, l2, q2⟩ | ⟨e2, s2, l2⟩
    · exact .inl ⟨a, ids2, e2, s1.then_ s2, n2, by omega, q2⟩
    · exact .inr ⟨e2, s2, by omega⟩
  · simp only at e1 s1 l1
    subst e1
    exact .inr ⟨rfl, s1, by omega⟩
end
end Tp
