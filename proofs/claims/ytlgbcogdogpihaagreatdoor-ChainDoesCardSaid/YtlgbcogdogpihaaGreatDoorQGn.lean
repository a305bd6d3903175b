/- A disk whose power does not go, and what its pages are: plain. What chain.Write has written, chain.Read reads: plain. A new disk, a new file. A new disk is as it should be. chain.Write and chain.Read on a disk whose power does not go, as a law of the document calls them. -/
import Derived.Test.YtlgbcogdogpihaaGreatDoorQGj
import Derived.Test.YtlgbcogdogpihaaGreatDoorQGm
import Derived.Test.YtlgbcogdogpihaaGreatDoorQGl
namespace Go.Proofs.YtlgbcogdogpihaaGreatDoor
open Go.RowKit Go.Shelf
/-- a disk whose power does not go, and what its pages are -/
structure DkOk (D : Dk) (n : Nat) (c : Int → Option (Nat × Bs)) : Prop where
  size : D.sure.length = n
  left : D.left = -1
  down : D.down = false
  page : ∀ id, noPage n id = false → PageIs D id (c id)
def updP (c : Int → Option (Nat × Bs)) (id : Int) (kind : Nat) (b : Bs) : Int → Option (Nat × Bs) := fun j => if j = id then some (kind, b) else c j
theorem DkOk.fput {D : Dk} {n : Nat} {c : Int → Option (Nat × Bs)} (h : DkOk D n c) {id : Int} (hid : noPage n id = false) {kind : Nat} (hk : kind < 256) {b : Bs} (hb : b.length ≤ 240) :
    D.fputE id b = 0 ∧ DkOk (D.fput id kind b) n (updP c id kind b) ∧ (D.fput id kind b).writes = D.writes + 1 ∧ (D.fput id kind b).reads = D.reads := by
  have hl := h.left
  have he : D.fputE id b = 0 := by
    unfold Dk.fputE Dk.wroteE
    rw [h.size, hid, h.down, hl]
    rw [if_neg (by simp), if_neg (by omega), if_neg (by simp), if_neg (by decide)]
  have hp : D.fput id kind b = D.put id (Pg.page id.toNat kind b) := by
    unfold Dk.fput Dk.wrote
    rw [h.size, hid, h.down, hl]
    rw [if_neg (by simp), if_neg (by omega), if_neg (by simp), if_neg (by decide), if_neg (by decide)]
  refine ⟨he, ?_, by rw [hp]; rfl, by rw [hp]; rfl⟩
  rw [hp]
  refine ⟨h.size, h.left, h.down, fun j hj => ?_⟩
  by_cases e : j = id
  · subst e
    refine .inr ⟨kind, b, hk, hb, ?_, by unfold updP; rw [if_pos rfl]⟩
    unfold Dk.get Dk.put
    simp
  · have hg : (D.put id (Pg.page id.toNat kind b)).get j = D.get j := by unfold Dk.get Dk.put; simp [e]
    have hq := h.page j hj
    unfold PageIs at hq ⊢
    rw [hg]
    unfold updP
    rw [if_neg e]
    exact hq
end Go.Proofs.YtlgbcogdogpihaaGreatDoor
namespace Go.Proofs.YtlgbcogdogpihaaGreatDoor
open Go.RowKit Go.Shelf
theorem DkOk.same {D D' : Dk} {n : Nat} {c : Int → Option (Nat × Bs)} (h : DkOk D n c) (hs : SameD D D') (hl : D'.left = D.left) : DkOk D' n c :=
  ⟨by rw [hs.sure]; exact h.size, hl.trans h.left, hs.down.trans h.down, fun id hi => hs.page (h.page id hi)⟩
/-- what a chain's writing makes of the pages -/
def cwC : (Int → Option (Nat × Bs)) → List Run → List Int → (Int → Option (Nat × Bs))
  | c, _, [] => c
  | c, s, id :: r => match Cp.body (r.headD 0) (s.take 29) with
    | none => c
    | some b => cwC (updP c id 3 b) (s.drop 29) r
theorem body_some {next : Int} {l : List Run} (h1 : Cp.fits 4 next = true) (h2 : l.length ≤ 29) (h3 : l.all Cp.okRun = true) : ∃ b, Cp.body next l = some b := by
  unfold Cp.body
  rw [h1, decide_eq_true h2, h3]
  exact ⟨_, if_pos rfl⟩
theorem all_take {l : List Run} (h : l.all Cp.okRun = true) (k : Nat) : (l.take k).all Cp.okRun = true ∧ (l.drop k).all Cp.okRun = true := by
  rw [List.all_eq_true] at h
  constructor
  · rw [List.all_eq_true]; exact fun x hx => h x (List.mem_of_mem_take hx)
  · rw [List.all_eq_true]; exact fun x hx => h x (List.mem_of_mem_drop hx)
theorem valid_fits {n : Nat} (hn : n ≤ 16384) {id : Int} (h : noPage n id = false) : Cp.fits 4 id = true ∧ 2 ≤ id ∧ id < n := by
  have hb : ¬ id < 2 ∧ ¬ (n : Int) ≤ id := by simpa [noPage] using h
  refine ⟨?_, by omega, by omega⟩
  unfold Cp.fits
  simp
  omega
theorem head_fits {n : Nat} (hn : n ≤ 16384) {r : List Int} (h : ∀ x ∈ r, noPage n x = false) : Cp.fits 4 (r.headD 0) = true := by
  cases r with
  | nil => decide
  | cons a r => exact (valid_fits hn (h a (List.mem_cons_self ..))).1
theorem cwRun_ok {n : Nat} (hn : n ≤ 16384) : ∀ (ids : List Int) (D : Dk) (c : Int → Option (Nat × Bs)) (s : List Run), DkOk D n c → (∀ id ∈ ids, noPage n id = false) → s.all Cp.okRun = true →
    (cwRun D s ids).1 = 0 ∧ DkOk (cwRun D s ids).2 n (cwC c s ids) ∧ (cwRun D s ids).2.writes = D.writes + (ids.length : Int) ∧ (cwRun D s ids).2.reads = D.reads := by
  intro ids
  induction ids with
  | nil => intro D c s h _ _; exact ⟨rfl, h, by show D.writes = _; simp, rfl⟩
  | cons id r ih =>
    intro D c s h hv hs
    have hr : ∀ x ∈ r, noPage n x = false := fun x hx => hv x (List.mem_cons_of_mem _ hx)
    obtain ⟨b, hb⟩ := body_some (head_fits hn hr) (by rw [List.length_take]; omega) (all_take hs 29).1
    have hl := Cp.body_length hb
    rw [List.length_take] at hl
    obtain ⟨h1, h2, h3, h4⟩ := h.fput (hv id (List.mem_cons_self ..)) (kind := 3) (by decide) (b := b) (by omega)
    obtain ⟨g1, g2, g3, g4⟩ := ih (D.fput id 3 b) (updP c id 3 b) (s.drop 29) h2 hr (all_take hs 29).2
    have e1 : cwRun D s (id :: r) = cwRun (D.fput id 3 b) (s.drop 29) r := by
      have e0 : cwRun D s (id :: r) = match Cp.body (r.headD 0) (s.take 29) with
        | none => (40, D)
        | some b => if D.fputE id b = 0 then cwRun (D.fput id 3 b) (s.drop 29) r else (D.fputE id b, D.fput id 3 b) := rfl
      rw [e0, hb]
      simp only
      rw [if_pos h1]
    have e2 : cwC c s (id :: r) = cwC (updP c id 3 b) (s.drop 29) r := by
      show (match Cp.body (r.headD 0) (s.take 29) with | none => c | some b => cwC (updP c id 3 b) (s.drop 29) r) = _
      rw [hb]
    rw [e1, e2]
    exact ⟨g1, g2, by rw [g3, h3, List.length_cons]; omega, by rw [g4, h4]⟩
/-- where a page is none, it is told -/
theorem cwRun_bad {n : Nat} : ∀ (ids : List Int) (D : Dk) (c : Int → Option (Nat × Bs)) (s : List Run), DkOk D n c → (∃ id ∈ ids, noPage n id = true) → s.all Cp.okRun = true → (cwRun D s ids).1 = 40 := by
  intro ids
  induction ids with
  | nil => rintro D c s h ⟨x, hx, _⟩ _; cases hx
  | cons id r ih =>
    intro D c s h hv hs
    unfold cwRun
    cases hb : Cp.body (r.headD 0) (s.take 29) with
    | none => rfl
    | some b =>
      have hl := Cp.body_length hb
      rw [List.length_take] at hl
      cases hi : noPage n id with
      | true =>
        have he : D.fputE id b = 40 := by unfold Dk.fputE; rw [h.size, hi]; rfl
        show (if D.fputE id b = 0 then cwRun (D.fput id 3 b) (s.drop 29) r else (D.fputE id b, D.fput id 3 b)).1 = 40
        rw [he]; rfl
      | false =>
        obtain ⟨h1, h2, h3, h4⟩ := h.fput hi (kind := 3) (by decide) (b := b) (by omega)
        show (if D.fputE id b = 0 then cwRun (D.fput id 3 b) (s.drop 29) r else (D.fputE id b, D.fput id 3 b)).1 = 40
        rw [if_pos h1]
        refine ih _ _ _ h2 ?_ (all_take hs 29).2
        obtain ⟨x, hx, hxn⟩ := hv
        rcases List.mem_cons.1 hx with rfl | hx
        · rw [hi] at hxn; cases hxn
        · exact ⟨x, hx, hxn⟩
/-- pages that hold a chain -/
def ChainC (c : Int → Option (Nat × Bs)) : List Run → List Int → Prop
  | _, [] => True
  | s, id :: r => (∃ b, c id = some (3, b) ∧ Cp.body (r.headD 0) (s.take 29) = some b) ∧ ChainC c (s.drop 29) r
theorem ChainC.congr {c c' : Int → Option (Nat × Bs)} : ∀ {ids : List Int} {s : List Run}, ChainC c s ids → (∀ x ∈ ids, c' x = c x) → ChainC c' s ids
  | [], _, _, _ => trivial
  | id :: r, s, h, hc => ⟨by rw [hc id (List.mem_cons_self ..)]; exact h.1, ChainC.congr h.2 (fun x hx => hc x (List.mem_cons_of_mem _ hx))⟩
theorem cwC_other : ∀ (ids : List Int) (c : Int → Option (Nat × Bs)) (s : List Run) (j : Int), j ∉ ids → cwC c s ids j = c j := by
  intro ids
  induction ids with
  | nil => intro c s j _; rfl
  | cons id r ih =>
    intro c s j hj
    rw [List.mem_cons, not_or] at hj
    show (match Cp.body (r.headD 0) (s.take 29) with | none => c | some b => cwC (updP c id 3 b) (s.drop 29) r) j = _
    cases Cp.body (r.headD 0) (s.take 29) with
    | none => rfl
    | some b =>
      show cwC (updP c id 3 b) (s.drop 29) r j = _
      rw [ih _ _ _ hj.2]
      unfold updP
      rw [if_neg hj.1]
theorem cwC_chain {n : Nat} (hn : n ≤ 16384) : ∀ (ids : List Int) (c : Int → Option (Nat × Bs)) (s : List Run), ids.Nodup → (∀ id ∈ ids, noPage n id = false) → s.all Cp.okRun = true → ChainC (cwC c s ids) s ids := by
  intro ids
  induction ids with
  | nil => intro c s _ _ _; trivial
  | cons id r ih =>
    intro c s hd hv hs
    rw [List.nodup_cons] at hd
    have hr : ∀ x ∈ r, noPage n x = false := fun x hx => hv x (List.mem_cons_of_mem _ hx)
    obtain ⟨b, hb⟩ := body_some (head_fits hn hr) (by rw [List.length_take]; omega) (all_take hs 29).1
    have e2 : cwC c s (id :: r) = cwC (updP c id 3 b) (s.drop 29) r := by
      show (match Cp.body (r.headD 0) (s.take 29) with | none => c | some b => cwC (updP c id 3 b) (s.drop 29) r) = _
      rw [hb]
    rw [e2]
    refine ⟨⟨b, ?_, hb⟩, ih _ _ hd.2 hr (all_take hs 29).2⟩
    rw [cwC_other r _ _ id hd.1]
    unfold updP
    rw [if_pos rfl]
/-- a chain's pages as read -/
def lnks : List Run → List Int → List Lnk
  | _, [] => []
  | s, id :: r => (id, s.take 29, 0) :: lnks (s.drop 29) r
theorem fo_chain {n : Nat} {id next : Int} {o : Option (Nat × Bs)} {l : List Run} {b : Bs} (hid : noPage n id = false) (ho : o = some (3, b)) (hb : Cp.body next l = some b) : fo n false id o = ((id, l, 0), next) := by
  have hp : some (next, l) = Cp.prog b := by rw [Cp.prog_eq]; exact (Cp.parse_body hb).symm
  have hf : frB n false id 3 o = (b, 0) := by
    unfold frB
    rw [hid, ho]
    rfl
  unfold fo
  rw [hf]
  exact foOf_ok hp
theorem chL_chain {n : Nat} {c : Int → Option (Nat × Bs)} : ∀ (ids : List Int) (s : List Run) (met : List Int) (k : Nat), ChainC c s ids → (∀ id ∈ ids, noPage n id = false) → ids.Nodup → (∀ id ∈ ids, id ∉ met) → ids.length ≤ k →
    chL n false c k met (ids.headD 0) = lnks s ids := by
  intro ids
  induction ids with
  | nil => intro s met k _ _ _ _ _; exact chL_zero _ _
  | cons id r ih =>
    intro s met k hc hv hd hm hk
    rw [List.length_cons] at hk
    obtain ⟨k', rfl⟩ : ∃ k', k = k' + 1 := ⟨k - 1, by omega⟩
    rw [List.nodup_cons] at hd
    obtain ⟨⟨b, h1, h2⟩, h3⟩ := hc
    have hid := hv id (List.mem_cons_self ..)
    have h0 : id ≠ 0 := by
      have hb : ¬ id < 2 ∧ ¬ (n : Int) ≤ id := by simpa [noPage] using hid
      omega
    have hfo := fo_chain (next := r.headD 0) hid h1 h2
    show chL n false c (k' + 1) met id = _
    rw [chL_step h0 (hm id (List.mem_cons_self ..)) hfo.symm]
    show (id, s.take 29, (0 : Int)) :: (if (0 : Int) = 0 then chL n false c k' (id :: met) (r.headD 0) else []) = (id, s.take 29, 0) :: lnks (s.drop 29) r
    rw [if_pos rfl, ih (s.drop 29) (id :: met) k' h3 (fun x hx => hv x (List.mem_cons_of_mem _ hx)) hd.2 (fun x hx => by
      rw [List.mem_cons, not_or]
      exact ⟨fun e => hd.1 (e ▸ hx), hm x (List.mem_cons_of_mem _ hx)⟩) (by omega)]
theorem lnks_ids : ∀ (ids : List Int) (s : List Run), (lnks s ids).map (fun y => y.1) = ids
  | [], _ => rfl
  | id :: r, s => by rw [lnks, List.map_cons, lnks_ids r]
theorem lnks_runs : ∀ (ids : List Int) (s : List Run), s.length ≤ 29 * ids.length → (lnks s ids).flatMap (fun y => y.2.1) = s
  | [], s, h => by
    have : s = [] := List.eq_nil_of_length_eq_zero (by simpa using h)
    rw [this]; rfl
  | id :: r, s, h => by
    rw [lnks, List.flatMap_cons, lnks_runs r (s.drop 29) (by rw [List.length_drop]; rw [List.length_cons] at h; omega)]
    exact List.take_append_drop 29 s
theorem lnks_ok : ∀ (ids : List Int) (s : List Run), (lnks s ids).find? (fun y => decide (y.2.2 ≠ 0)) = none
  | [], _ => rfl
  | id :: r, s => by
    rw [lnks, List.find?_cons]
    exact lnks_ok r _
theorem norm_norm (l : List Run) : Rp.norm (Rp.norm l) = Rp.norm l := by
  have h1 := Rp.norm_ok l
  have h2 := Rp.norm_ok (Rp.norm l)
  refine Rp.canon_unique _ _ 0 0 h2.1 h1.1 (fun n => ?_)
  rw [h2.2 n]
  exact ⟨fun h => h.1, fun h => ⟨h, h1.1.ge h, h1.1.le h⟩⟩
theorem crRes_lnks {ids : List Int} {s : List Run} (h : s.length ≤ 29 * ids.length) : crRes (lnks s ids) = (Rp.norm s, ids, 0) := by
  unfold crRes
  rw [lnks_ok, lnks_runs ids s h, lnks_ids]
theorem canon_le : ∀ (l : List Run) (lo : Int), Rp.Canon lo l → ∀ y ∈ l, y.1 ≤ y.2
  | [], _, _, _, hy => by cases hy
  | r :: l, lo, h, y, hy => by
    rcases List.mem_cons.1 hy with rfl | hy
    · exact h.2.1
    · exact canon_le l _ h.2.2.2 y hy
theorem norm_okRun (l : List Run) : (Rp.norm l).all Cp.okRun = true := by
  rw [List.all_eq_true]
  intro y hy
  have := canon_inR _ 0 (Int.le_refl _) (Rp.norm_ok l).1 y hy
  have hle := canon_le _ 0 (Rp.norm_ok l).1 y hy
  unfold InR at this
  unfold Cp.okRun Cp.fits
  simp
  omega
/-- what was written is read -/
theorem chain_read {n : Nat} {c : Int → Option (Nat × Bs)} {ids : List Int} {l : List Run} (hc : ChainC c (Rp.norm l) ids) (hv : ∀ id ∈ ids, noPage n id = false) (hd : ids.Nodup) (hn : ids.length ≤ n + 1) (hl : pg l ≤ (ids.length : Int)) :
    crRes (chL n false c (n + 1) [] (ids.headD 0)) = (Rp.norm l, ids, 0) := by
  rw [chL_chain ids _ [] (n + 1) hc hv hd (fun _ _ h => by cases h) hn, crRes_lnks (by unfold pg at hl; omega), norm_norm]
end Go.Proofs.YtlgbcogdogpihaaGreatDoor
namespace Go.Proofs.YtlgbcogdogpihaaGreatDoor
open Go.RowKit Go.Shelf
def fresh (n : Nat) : Dk := { sure := List.replicate n zeroL, now := fun _ => none, pend := [], left := -1, down := false, reads := 0, writes := 0 }
theorem fresh_lim {n : Nat} (h : n ≤ 16384) : Lim (fresh n) 0 := ⟨by simp [fresh]; exact h, ⟨Int.le_refl _, Int.le_refl _⟩, ⟨Int.le_refl _, Int.le_refl _⟩, ⟨by show (-1 : Int) ≤ -1; omega, by show (-1 : Int) ≤ _; omega⟩, by simp [fresh]⟩
theorem owns_of {H : Type} {w : World} {P : Program} {k : TypeId} {R : Value → Option (DataW H × List MemPlace)} {m : Nat} (h : w.heap[m]? = some (.map #[] 0)) : w.ownsMap P k R m 0 (.map []) := by
  obtain ⟨es, c, h1, h2, h3, h4⟩ := World.ownsMap_made w P k R
  rw [heap_alloc_new] at h1
  injection h1 with h1
  injection h1 with h5 h6
  subst h5 h6
  exact ⟨_, _, h, h2, h3, h4⟩
theorem zero_str : (Value.string zeroPage) = str zeroL := by
  have : Lib.repeatL [0] 256 = zeroL := by decide +kernel
  unfold zeroPage str
  rw [this]
theorem rowZ_str (n : Nat) : rowZ zeroPage n n = ((fresh n).sure.map str).toArray := by
  unfold rowZ fresh
  rw [Nat.sub_self, zero_str]
  simp
theorem dfresh_any (k : Int) (w : World) :
    Calls Tryz.prog 9 #[.int .i64 k] w fun e w' => ∃ d, e = .returned (.pointer (some ⟨d, 0, none⟩)) ∧ DkAt w' w.heap.size d 0 (fresh (diskN k)) ∧ Below w.heap.size w w' := by
  refine (dnew_any k w).mono ?_
  rintro e w' ⟨d, s, m, rfl, h1, h2, h3, h4, h5, h6, h7⟩
  rw [rowZ_str] at h4
  refine ⟨d, rfl, ⟨s, m, .slice none 0 0, .map [], ⟨h1, h2, h3⟩, ?_, h4, owns_of h5, fun i z => ⟨by simp [Maps.has, fresh], by simp [DataW.atKey, fresh]⟩, LO.nil_ _ _⟩, h7⟩
  have hl : (fresh (diskN k)).sure.length = diskN k := by simp [fresh]
  unfold dkCells
  rw [hl]
  exact h6
set_option maxRecDepth 100000 in
set_option maxHeartbeats 400000 in
theorem ffresh_any {B d k : Nat} {D : Dk} {w : World} (hd : DkAt w B d k D) (hB : B ≤ w.heap.size) : Calls Tryz.prog 8 #[.pointer (some ⟨d, 0, none⟩)] w fun e w' => ∃ f, e = .returned (.pointer (some ⟨f, 0, none⟩)) ∧ FAt w' B f d k D ∧ Below w.heap.size w w' := by
  go_enter Tryz.func8, Tryz.ntmps8
  go_wp2
  go_ret
  exact ⟨_, rfl, ⟨hB, Blk.new w _ _, hd.keep ((Below.refl _ w).alloc (Nat.le_refl _) _)⟩, (Below.refl _ w).alloc (Nat.le_refl _) _⟩
end Go.Proofs.YtlgbcogdogpihaaGreatDoor
namespace Go.Proofs.YtlgbcogdogpihaaGreatDoor
open Go.RowKit Go.Shelf
theorem fresh_ok (n : Nat) : DkOk (fresh n) n (fun _ => none) := by
  refine ⟨by simp [fresh], rfl, rfl, fun id hid => .inl ⟨?_, rfl⟩⟩
  have hb : ¬ id < 2 ∧ ¬ (n : Int) ≤ id := by simpa [noPage] using hid
  unfold Dk.get fresh
  simp only
  rw [List.getD_eq_getElem?_getD, List.getElem?_replicate]
  rw [if_pos (by omega)]
  rfl
end Go.Proofs.YtlgbcogdogpihaaGreatDoor
namespace Go.Proofs.YtlgbcogdogpihaaGreatDoor
open Go.RowKit Go.Shelf
theorem cwRun_lim : ∀ (ids : List Int) (D : Dk) (s : List Run) (N : Nat), Lim D N → Lim (cwRun D s ids).2 (N + ids.length) := by
  intro ids
  induction ids with
  | nil => intro D s N h; exact h
  | cons id r ih =>
    intro D s N h
    have e0 : cwRun D s (id :: r) = match Cp.body (r.headD 0) (s.take 29) with
      | none => (40, D)
      | some b => if D.fputE id b = 0 then cwRun (D.fput id 3 b) (s.drop 29) r else (D.fputE id b, D.fput id 3 b) := rfl
    rw [e0]
    cases Cp.body (r.headD 0) (s.take 29) with
    | none => exact h.mono (by omega)
    | some b =>
      simp only
      split
      · have := ih (D.fput id 3 b) (s.drop 29) (N + 1) (h.fput id 3 b)
        exact this.mono (by rw [List.length_cons]; omega)
      · exact (h.fput id 3 b).mono (by rw [List.length_cons]; omega)
theorem readD_more (D : Dk) (i : Int) : (D.readD i).left = D.left ∧ (D.readD i).writes = D.writes ∧ (D.readD i).pend = D.pend := by
  unfold Dk.readD
  split
  · exact ⟨rfl, rfl, rfl⟩
  · split <;> exact ⟨rfl, rfl, rfl⟩
theorem chD_same {n : Nat} {down : Bool} {pg : Int → Option (Nat × Bs)} {D0 : Dk} (k : Nat) : ∀ (D : Dk) (met : List Int) (id : Int) (N : Nat), SameD D0 D → D.left = D0.left → D.writes = D0.writes → Lim D N →
    SameD D0 (chD n down pg k D met id) ∧ (chD n down pg k D met id).left = D0.left ∧ (chD n down pg k D met id).writes = D0.writes ∧ Lim (chD n down pg k D met id) (N + k) := by
  induction k with
  | zero => intro D met id N h1 h2 h3 h4; exact ⟨h1, h2, h3, h4⟩
  | succ k ih =>
    intro D met id N h1 h2 h3 h4
    by_cases h0 : id = 0
    · subst h0; rw [chD_zero]; exact ⟨h1, h2, h3, h4.mono (by omega)⟩
    · by_cases hm : id ∈ met
      · rw [chD_met h0 hm]; exact ⟨h1, h2, h3, h4.mono (by omega)⟩
      · rw [chD_step h0 hm rfl]
        have hr := readD_more D id
        split
        · have := ih (D.readD id) (id :: met) (fo n down id (pg id)).2 (N + 1) (h1.readD id) (hr.1.trans h2) (hr.2.1.trans h3) (h4.readD id)
          exact ⟨this.1, this.2.1, this.2.2.1, this.2.2.2.mono (by omega)⟩
        · exact ⟨h1.readD id, hr.1.trans h2, hr.2.1.trans h3, (h4.readD id).mono (by omega)⟩
theorem cwrite_law {w : World} {B f d k N n b2 : Nat} {c : Int → Option (Nat × Bs)} {D : Dk} (A1 A2 : Option Addr) (c1 c2 : Nat) (l : List Run) (ids : List Int) (hl : l.length ≤ 1000) (hi : ids.length ≤ 1000) (hF : FAt w B f d k D) (hO : DkOk D n c) (hn : n ≤ 16384) (hL : Lim D N) (hN : N + 1000 < 1000000) (hk : k + 1000 < maxLen)
    (hT : HT w) (hB0 : 0 < B) (hB : B ≤ w.heap.size) (h1 : RS w w.heap.size A1 l) (h2 : LO intE 3 w b2 (.slice A2 ids.length c2) ids) (hv : ∀ id ∈ ids, noPage n id = false) (hd : ids.Nodup) :
    Calls Tryz.prog 10 #[.pointer (some ⟨f, 0, none⟩), .slice A1 l.length c1, .slice A2 ids.length c2] w fun e w' => ∃ (x y : Int) (D' : Dk) (c' : Int → Option (Nat × Bs)), e = .returned (.tuple #[.int .i64 x, .int .i64 y]) ∧ FAt w' B f d (k + ids.length) D' ∧ DkOk D' n c' ∧ Lim D' (N + ids.length) ∧ Below B w w' ∧ Kept w w' ∧
      ((y = 1 ∧ ¬ pg l ≤ (ids.length : Int)) ∨ (y = 0 ∧ x = ids.headD 0 ∧ c' = cwC c (Rp.norm l) ids ∧ pg l ≤ (ids.length : Int))) := by
  by_cases hp : pg l ≤ (ids.length : Int)
  · refine (cwrite_ok A1 A2 c1 c2 l ids hl hi w hF hL hN hk hT hB0 hB h1 (fun W _ hK => (h2.kept hK (by decide) (by decide)).ls) hd hp).mono ?_
    rintro e w' ⟨h3, h4, h5, h6⟩
    obtain ⟨g1, g2, g3, g4⟩ := cwRun_ok hn ids D c (Rp.norm l) hO hv (norm_okRun l)
    rw [g1] at h3
    exact ⟨ids.headD 0, 0, _, _, h3, h4, g2, cwRun_lim ids D _ N hL, h5, h6, .inr ⟨rfl, rfl, rfl, hp⟩⟩
  · refine (cwrite_bad (.pointer (some ⟨f, 0, none⟩)) A1 A2 c1 c2 l ids (by omega) (by omega) w h1 h2.ls (.inr (by omega))).mono ?_
    rintro e w' ⟨h3, h4⟩
    exact ⟨0, 1, D, c, h3, (hF.keep h4).mono (by omega), hO, hL.mono (by omega), h4.mono hB, Kept.below h4, .inl ⟨rfl, hp⟩⟩
theorem cread_law {w : World} {B f d k N n : Nat} {c : Int → Option (Nat × Bs)} {D : Dk} (l : List Run) (ids : List Int) (hF : FAt w B f d k D) (hO : DkOk D n c) (hn : n ≤ 16384) (hL : Lim D N) (hN : N + 20000 < 1000000) (hT : HT w) (hB0 : 0 < B) (hB : B ≤ w.heap.size)
    (hc : ChainC c (Rp.norm l) ids) (hv : ∀ id ∈ ids, noPage n id = false) (hd : ids.Nodup) (hp : pg l ≤ (ids.length : Int)) :
    Calls Tryz.prog 11 #[.pointer (some ⟨f, 0, none⟩), .int .i64 (ids.headD 0)] w fun e w' => ∃ (v u : Value) (D' : Dk), e = .returned (.tuple #[v, u, .int .i64 0]) ∧ Own w' w.heap.size v (Rp.norm l) ∧ LO intE 3 w' w.heap.size u ids ∧ FAt w' B f d k D' ∧ DkOk D' n c ∧ Lim D' (N + (n + 1)) ∧ Below B w w' ∧ Kept w w' := by
  have hids : ids.length ≤ n + 1 := Nat.le_succ_of_le (met_len hd (fun x hx => (valid_fits hn (hv x hx)).2))
  have hw : (Lit.int .i64 (ids.headD 0)).wf = true := by
    cases ids with
    | nil => decide
    | cons a r =>
      have := (valid_fits hn (hv a (List.mem_cons_self ..))).2
      exact wf_small (by show 0 ≤ a; omega) (by show a < _; omega)
  refine (cread_any hF hL hN hT hB0 hB c (fun id h1 h2 => hO.page id (by rw [← hO.size]; exact h1)) (ids.headD 0) hw).mono ?_
  rintro e w' ⟨v, u, h1, h2, h3, h4, h5, h6⟩
  have hs := chD_same (n := D.sure.length) (down := D.down) (pg := c) (D0 := D) (D.sure.length + 1) D [] (ids.headD 0) N (SameD.refl D) rfl rfl hL
  have hR : crRes (chL D.sure.length D.down c (D.sure.length + 1) [] (ids.headD 0)) = (Rp.norm l, ids, 0) := by
    rw [hO.size, hO.down]
    exact chain_read hc hv hd hids hp
  rw [hR] at h1 h2 h3
  exact ⟨v, u, _, h1, h2, h3, h4, hO.same hs.1 hs.2.1, by have := hs.2.2.2; rw [hO.size] at this ⊢; exact this, h5, h6⟩
end Go.Proofs.YtlgbcogdogpihaaGreatDoor
