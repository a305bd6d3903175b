/- Plain: what is different leads there, and back. -/
import Derived.Test.YtknlcfiphkbbaaaDoorDiffP
namespace En
theorem srt_append {p a : List Ent} : Srt (p ++ a) ↔ Srt p ∧ Srt a ∧ ∀ x ∈ p, ∀ y ∈ a, lt x.1 y.1 = true := List.pairwise_append
theorem srt_mid {p a : List Ent} {x : Ent} (h : Srt (p ++ x :: a)) : (∀ y ∈ p, lt y.1 x.1 = true) ∧ (∀ y ∈ a, lt x.1 y.1 = true) ∧ Srt (p ++ a) := by
  obtain ⟨h1, h2, h3⟩ := srt_append.1 h
  obtain ⟨h4, h5⟩ := srt_cons.1 h2
  exact ⟨fun y hy => h3 y hy x List.mem_cons_self, h4, srt_append.2 ⟨h1, h5, fun u hu v hv => h3 u hu v (List.mem_cons_of_mem _ hv)⟩⟩
theorem del_mid {p a : List Ent} {x : Ent} (h : Srt (p ++ x :: a)) : del (p ++ x :: a) x.1 = p ++ a := by
  obtain ⟨h1, h2, h3⟩ := srt_mid h
  refine srt_ext (srt_del h _) h3 fun z => ?_
  rw [mem_del, List.mem_append, List.mem_cons, List.mem_append]
  constructor
  · rintro ⟨hz | rfl | hz, hne⟩
    · exact .inl hz
    · exact absurd rfl hne
    · exact .inr hz
  · rintro (hz | hz)
    · exact ⟨.inl hz, lt_ne (h1 z hz)⟩
    · exact ⟨.inr (.inr hz), (lt_ne (h2 z hz)).symm⟩
theorem put_mid {p a : List Ent} {y : Ent} (h : Srt (p ++ a)) (h' : Srt (p ++ y :: a)) : put (p ++ a) y.1 y.2 = p ++ y :: a := by
  obtain ⟨h1, h2, _⟩ := srt_mid h'
  refine srt_ext (srt_put h _ _) h' fun z => ?_
  rw [mem_put, List.mem_append, List.mem_append, List.mem_cons]
  constructor
  · rintro (rfl | ⟨hz | hz, _⟩)
    · exact .inr (.inl rfl)
    · exact .inl hz
    · exact .inr (.inr hz)
  · rintro (hz | rfl | hz)
    · exact .inr ⟨.inl hz, lt_ne (h1 z hz)⟩
    · exact .inl rfl
    · exact .inr ⟨.inr hz, (lt_ne (h2 z hz)).symm⟩
theorem put_over {p a : List Ent} {x y : Ent} (h : Srt (p ++ x :: a)) (e : x.1 = y.1) : put (p ++ x :: a) y.1 y.2 = p ++ y :: a := by
  obtain ⟨h1, h2, h3⟩ := srt_mid h
  obtain ⟨g1, g2, g3⟩ := srt_append.1 h3
  have h' : Srt (p ++ y :: a) := srt_append.2 ⟨g1, srt_cons.2 ⟨fun z hz => e ▸ h2 z hz, g2⟩, fun u hu v hv => by
    rcases List.mem_cons.1 hv with rfl | hv
    · exact e ▸ h1 u hu
    · exact g3 u hu v hv⟩
  have : put (p ++ x :: a) y.1 y.2 = put (p ++ a) y.1 y.2 := by
    unfold put
    rw [← e, del_mid h]
    congr 1
    unfold del
    rw [List.filter_eq_self.2]
    intro z hz
    rw [Bool.not_eq_true', eqs_false]
    rcases List.mem_append.1 hz with hz | hz
    · exact lt_ne (h1 z hz)
    · exact (lt_ne (h2 z hz)).symm
  rw [this, put_mid h3 h']
def All (l : List Ent) : Prop := ∀ x ∈ l, may x.1 x.2 = true
theorem right_of {l : List Ent} (h : All l) (hs : Srt l) : right l = true := (right_iff l).2 ⟨h, hs⟩
theorem ap_merge : ∀ (n : Nat) (p a b : List Ent), a.length + b.length ≤ n → Srt (p ++ a) → Srt (p ++ b) → All (p ++ a) → All (p ++ b) → ap (p ++ a) (mergeD a b) = p ++ b
  | _, p, [], [], _, _, _, _, _ => rfl
  | 0, _, x :: a, _, h, _, _, _, _ => by simp at h
  | 0, _, [], y :: b, h, _, _, _, _ => by simp at h
  | n + 1, p, x :: a, [], h, ha, hb, ma, mb => by
    rw [merge_a, ap_cons]
    have e : ap1 (p ++ x :: a) (dOld x) = p ++ a := by
      unfold ap1; rw [right_of ma ha]; exact del_mid ha
    rw [e]
    exact ap_merge n p a [] (by simp at h ⊢; omega) (srt_mid ha).2.2 hb (fun z hz => ma z (by rcases List.mem_append.1 hz with hz | hz; exact List.mem_append_left _ hz; exact List.mem_append_right _ (List.mem_cons_of_mem _ hz))) mb
  | n + 1, p, [], y :: b, h, ha, hb, ma, mb => by
    rw [merge_b, ap_cons]
    have hmy : may y.1 y.2 = true := mb y (by simp)
    have h1 : Srt (p ++ y :: []) := by
      obtain ⟨g1, _, _⟩ := srt_mid hb
      rw [List.append_nil] at ha
      exact srt_append.2 ⟨ha, by simp [Srt], fun u hu v hv => by simp at hv; subst hv; exact g1 u hu⟩
    have e : ap1 (p ++ []) (dNew y) = (p ++ [y]) ++ [] := by
      unfold ap1; rw [right_of ma ha]
      show (if may y.1 y.2 = true then put (p ++ []) y.1 y.2 else p ++ []) = _
      rw [if_pos hmy, put_mid ha h1]; simp
    rw [e, ap_merge n (p ++ [y]) [] b (by simp at h ⊢; omega) (by simpa using h1) (by simpa using hb) (fun z hz => by
      simp at hz
      rcases hz with hz | rfl
      · exact ma z (by simpa using hz)
      · exact hmy) (by simpa using mb)]
    simp
  | n + 1, p, x :: a, y :: b, h, ha, hb, ma, mb => by
    simp at h
    obtain ⟨xa1, xa2, xa3⟩ := srt_mid ha
    obtain ⟨yb1, yb2, yb3⟩ := srt_mid hb
    have mal : All (p ++ a) := fun z hz => ma z (by rcases List.mem_append.1 hz with hz | hz; exact List.mem_append_left _ hz; exact List.mem_append_right _ (List.mem_cons_of_mem _ hz))
    have hmy : may y.1 y.2 = true := mb y (by simp)
    have hmx : may x.1 x.2 = true := ma x (by simp)
    rw [merge_ab]
    rcases lt_tri x.1 y.1 with hxy | hxy | hxy
    · rw [if_pos hxy, ap_cons]
      have e : ap1 (p ++ x :: a) (dOld x) = p ++ a := by unfold ap1; rw [right_of ma ha]; exact del_mid ha
      rw [e]
      exact ap_merge n p a (y :: b) (by simp; omega) xa3 hb mal mb
    · have n1 : lt x.1 y.1 = false := by rw [hxy]; exact lt_irrefl _
      have n2 : lt y.1 x.1 = false := by rw [hxy]; exact lt_irrefl _
      rw [n1, n2]
      simp only [Bool.false_eq_true, if_false]
      have hy' : Srt (p ++ y :: a) := by
        obtain ⟨g1, g2, g3⟩ := srt_append.1 xa3
        exact srt_append.2 ⟨g1, srt_cons.2 ⟨fun z hz => hxy ▸ xa2 z hz, g2⟩, fun u hu v hv => by
          rcases List.mem_cons.1 hv with rfl | hv
          · exact hxy ▸ xa1 u hu
          · exact g3 u hu v hv⟩
      have step : ap (p ++ x :: a) (dBoth x y) = p ++ y :: a := by
        unfold dBoth
        by_cases hv : eqs x.2 y.2 = true
        · rw [if_pos hv, ap_nil]
          have : x = y := Prod.ext hxy (eqs_iff.1 hv)
          rw [this]
        · rw [if_neg hv, ap_cons, ap_nil]
          unfold ap1
          rw [right_of ma ha]
          show (if may x.1 y.2 = true then put (p ++ x :: a) x.1 y.2 else p ++ x :: a) = _
          rw [hxy, if_pos hmy]
          exact put_over ha hxy
      rw [ap_append, step]
      have h2 := ap_merge n (p ++ [y]) a b (by omega) (by simpa using hy') (by simpa using hb) (fun z hz => by
        simp at hz
        rcases hz with hz | rfl | hz
        · exact ma z (by simp [hz])
        · exact hmy
        · exact ma z (by simp [hz])) (by simpa using mb)
      simpa using h2
    · have n1 := lt_not hxy
      rw [n1, hxy]
      simp only [Bool.false_eq_true, if_false, if_true]
      rw [ap_cons]
      have hall : Srt (p ++ y :: x :: a) := by
        obtain ⟨g1, g2, g3⟩ := srt_append.1 ha
        exact srt_append.2 ⟨g1, srt_cons.2 ⟨fun z hz => by
          rcases List.mem_cons.1 hz with rfl | hz
          · exact hxy
          · exact lt_trans hxy (xa2 z hz), g2⟩, fun u hu v hv => by
          rcases List.mem_cons.1 hv with rfl | hv
          · exact yb1 u hu
          · exact g3 u hu v hv⟩
      have e : ap1 (p ++ x :: a) (dNew y) = (p ++ [y]) ++ x :: a := by
        unfold ap1; rw [right_of ma ha]
        show (if may y.1 y.2 = true then put (p ++ x :: a) y.1 y.2 else p ++ x :: a) = _
        rw [if_pos hmy, put_mid ha hall]; simp
      rw [e, ap_merge n (p ++ [y]) (x :: a) b (by simp; omega) (by simpa using hall) (by simpa using hb) (fun z hz => by
        simp at hz
        rcases hz with hz | rfl | rfl | hz
        · exact ma z (by simp [hz])
        · exact hmy
        · exact hmx
        · exact ma z (by simp [hz])) (by simpa using mb)]
      simp
theorem ap_there {a b : List Ent} (ha : right a = true) (hb : right b = true) : ap a (mergeD a b) = b := by
  obtain ⟨a1, a2⟩ := (right_iff a).1 ha
  obtain ⟨b1, b2⟩ := (right_iff b).1 hb
  simpa using ap_merge (a.length + b.length) [] a b (Nat.le_refl _) a2 b2 a1 b1
def turn (d : Dl) : Dl := ⟨d.key, d.new, d.old, d.is, d.was⟩
theorem eqs_comm (a b : Str) : eqs a b = eqs b a := by
  cases h : eqs a b with
  | true => rw [eqs_iff] at h; subst h; exact (eqs_self a).symm
  | false => exact (eqs_no (fun e => (eqs_false.1 h) e.symm)).symm
theorem merge_turn : ∀ (n : Nat) (a b : List Ent), a.length + b.length ≤ n → mergeD b a = (mergeD a b).map turn
  | _, [], [], _ => rfl
  | 0, x :: a, _, h => by simp at h
  | 0, [], y :: b, h => by simp at h
  | n + 1, x :: a, [], h => by rw [merge_b, merge_a, List.map_cons, merge_turn n a [] (by simp at h ⊢; omega)]; rfl
  | n + 1, [], y :: b, h => by rw [merge_a, merge_b, List.map_cons, merge_turn n [] b (by simp at h ⊢; omega)]; rfl
  | n + 1, x :: a, y :: b, h => by
    simp at h
    rw [merge_ab, merge_ab]
    rcases lt_tri x.1 y.1 with hxy | hxy | hxy
    · rw [lt_not hxy, hxy]
      simp only [Bool.false_eq_true, if_false, if_true, List.map_cons]
      rw [merge_turn n a (y :: b) (by simp; omega)]; rfl
    · have n1 : lt x.1 y.1 = false := by rw [hxy]; exact lt_irrefl _
      have n2 : lt y.1 x.1 = false := by rw [hxy]; exact lt_irrefl _
      rw [n1, n2]
      simp only [Bool.false_eq_true, if_false]
      rw [List.map_append, merge_turn n a b (by omega)]
      congr 1
      unfold dBoth
      rw [eqs_comm y.2 x.2]
      by_cases hv : eqs x.2 y.2 = true
      · rw [if_pos hv, if_pos hv]; rfl
      · rw [if_neg hv, if_neg hv]; unfold turn; simp [hxy]
    · rw [lt_not hxy, hxy]
      simp only [Bool.false_eq_true, if_false, if_true, List.map_cons]
      rw [merge_turn n (x :: a) b (by simp; omega)]; rfl
theorem merge_self : ∀ a : List Ent, mergeD a a = []
  | [] => rfl
  | x :: a => by
    rw [merge_ab, lt_irrefl]
    simp only [Bool.false_eq_true, if_false]
    unfold dBoth
    rw [eqs_self, if_pos rfl, merge_self a]; rfl
theorem merge_keys : ∀ (n : Nat) (a b : List Ent), a.length + b.length ≤ n → ∀ d ∈ mergeD a b, d.key ∈ keys a ∨ d.key ∈ keys b
  | _, [], [], _, d, hd => by rw [merge_nil] at hd; cases hd
  | 0, x :: a, _, h, _, _ => by simp at h
  | 0, [], y :: b, h, _, _ => by simp at h
  | n + 1, x :: a, [], h, d, hd => by
    rw [merge_a] at hd
    rcases List.mem_cons.1 hd with rfl | hd
    · exact .inl (mem_keys.2 ⟨x, List.mem_cons_self, rfl⟩)
    · rcases merge_keys n a [] (by simp at h ⊢; omega) d hd with h1 | h1
      · exact .inl (List.mem_cons_of_mem _ h1)
      · exact .inr h1
  | n + 1, [], y :: b, h, d, hd => by
    rw [merge_b] at hd
    rcases List.mem_cons.1 hd with rfl | hd
    · exact .inr (mem_keys.2 ⟨y, List.mem_cons_self, rfl⟩)
    · rcases merge_keys n [] b (by simp at h ⊢; omega) d hd with h1 | h1
      · exact .inl h1
      · exact .inr (List.mem_cons_of_mem _ h1)
  | n + 1, x :: a, y :: b, h, d, hd => by
    simp at h
    have k1 := merge_keys n a (y :: b) (by simp; omega) d
    have k2 := merge_keys n (x :: a) b (by simp; omega) d
    have k3 := merge_keys n a b (by omega) d
    rw [merge_ab] at hd
    by_cases h1 : lt x.1 y.1 = true
    · rw [if_pos h1] at hd
      rcases List.mem_cons.1 hd with rfl | hd
      · exact .inl (mem_keys.2 ⟨x, List.mem_cons_self, rfl⟩)
      · rcases k1 hd with h2 | h2
        · exact .inl (List.mem_cons_of_mem _ h2)
        · exact .inr h2
    · rw [if_neg h1] at hd
      by_cases h2 : lt y.1 x.1 = true
      · rw [if_pos h2] at hd
        rcases List.mem_cons.1 hd with rfl | hd
        · exact .inr (mem_keys.2 ⟨y, List.mem_cons_self, rfl⟩)
        · rcases k2 hd with h3 | h3
          · exact .inl h3
          · exact .inr (List.mem_cons_of_mem _ h3)
      · rw [if_neg h2] at hd
        rcases List.mem_append.1 hd with hd | hd
        · unfold dBoth at hd
          split at hd
          · cases hd
          · simp at hd; subst hd
            exact .inl (mem_keys.2 ⟨x, List.mem_cons_self, rfl⟩)
        · rcases k3 hd with h3 | h3
          · exact .inl (List.mem_cons_of_mem _ h3)
          · exact .inr (List.mem_cons_of_mem _ h3)
def Rise (d : List Dl) : Prop := d.Pairwise fun x y => lt x.key y.key = true
theorem keys_gt {k : Str} {a : List Ent} (h : ∀ z ∈ a, lt k z.1 = true) {m : Str} (hm : m ∈ keys a) : lt k m = true := by
  obtain ⟨z, hz, rfl⟩ := mem_keys.1 hm
  exact h z hz
theorem merge_rise : ∀ (n : Nat) (a b : List Ent), a.length + b.length ≤ n → Srt a → Srt b → Rise (mergeD a b)
  | _, [], [], _, _, _ => List.Pairwise.nil
  | 0, x :: a, _, h, _, _ => by simp at h
  | 0, [], y :: b, h, _, _ => by simp at h
  | n + 1, x :: a, [], h, ha, hb => by
    obtain ⟨a1, a2⟩ := srt_cons.1 ha
    rw [merge_a]
    refine List.pairwise_cons.2 ⟨fun d hd => ?_, merge_rise n a [] (by simp at h ⊢; omega) a2 hb⟩
    rcases merge_keys _ a [] (Nat.le_refl _) d hd with h1 | h1
    · exact keys_gt a1 h1
    · simp [keys] at h1
  | n + 1, [], y :: b, h, ha, hb => by
    obtain ⟨b1, b2⟩ := srt_cons.1 hb
    rw [merge_b]
    refine List.pairwise_cons.2 ⟨fun d hd => ?_, merge_rise n [] b (by simp at h ⊢; omega) ha b2⟩
    rcases merge_keys _ [] b (Nat.le_refl _) d hd with h1 | h1
    · simp [keys] at h1
    · exact keys_gt b1 h1
  | n + 1, x :: a, y :: b, h, ha, hb => by
    simp at h
    obtain ⟨a1, a2⟩ := srt_cons.1 ha
    obtain ⟨b1, b2⟩ := srt_cons.1 hb
    rw [merge_ab]
    rcases lt_tri x.1 y.1 with hxy | hxy | hxy
    · rw [if_pos hxy]
      refine List.pairwise_cons.2 ⟨fun d hd => ?_, merge_rise n a (y :: b) (by simp; omega) a2 hb⟩
      rcases merge_keys _ a (y :: b) (Nat.le_refl _) d hd with h1 | h1
      · exact keys_gt a1 h1
      · refine keys_gt (fun z hz => ?_) h1
        rcases List.mem_cons.1 hz with rfl | hz
        · exact hxy
        · exact lt_trans hxy (b1 z hz)
    · have n1 : lt x.1 y.1 = false := by rw [hxy]; exact lt_irrefl _
      have n2 : lt y.1 x.1 = false := by rw [hxy]; exact lt_irrefl _
      rw [n1, n2]
      simp only [Bool.false_eq_true, if_false]
      have ih := merge_rise n a b (by omega) a2 b2
      unfold dBoth
      split
      · exact ih
      · refine List.pairwise_cons.2 ⟨fun d hd => ?_, ih⟩
        rcases merge_keys _ a b (Nat.le_refl _) d hd with h1 | h1
        · exact keys_gt a1 h1
        · exact keys_gt (fun z hz => by rw [hxy]; exact b1 z hz) h1
    · rw [lt_not hxy, hxy]
      simp only [Bool.false_eq_true, if_false, if_true]
      refine List.pairwise_cons.2 ⟨fun d hd => ?_, merge_rise n (x :: a) b (by simp; omega) ha b2⟩
      rcases merge_keys _ (x :: a) b (Nat.le_refl _) d hd with h1 | h1
      · refine keys_gt (fun z hz => ?_) h1
        rcases List.mem_cons.1 hz with rfl | hz
        · exact hxy
        · exact lt_trans hxy (a1 z hz)
      · exact keys_gt b1 h1
end En
