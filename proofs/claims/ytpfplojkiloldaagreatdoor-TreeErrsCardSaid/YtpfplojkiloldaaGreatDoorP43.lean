/- A law's tree over a file: what it stands for; Put, Delete, Get, Walk; New of a change of a file. Plain: what a root stands for on a disk, from change to change. A tree that has ended with an error tells just that. A file from change to change: what its roots stand for; a change's begin, its Flush, what is asked of it behind that. A file's start; a law's tree over a file, done with or not. -/
import Derived.Test.YtpfplojkiloldaaGreatDoorP29
import Derived.Test.YtpfplojkiloldaaGreatDoorP39
import Derived.Test.YtpfplojkiloldaaGreatDoorP41
import Derived.Test.YtpfplojkiloldaaGreatDoorP42
set_option maxRecDepth 100000
namespace Go.Proofs.YtpfplojkiloldaaGreatDoor
open Go.RowKit Go.Shelf
theorem cost_rd {σ : Tp.Pst} {disk : Tp.Disk} : ∀ (h f : Nat) (lo hi : Option En.Str) (s : Tp.Sub), Tp.Tr (σ.view disk) h lo hi s -> Tp.cost Tp.rd disk σ f s.id <= 2 * s.ids.length
  | _, 0, _, _, _, _ => Nat.zero_le _
  | 0, f + 1, lo, hi, s, hs => by
    rw [Tp.cost_eq hs.1, hs.2.1]
    exact Nat.le_of_eq (by simp [Tp.rd, Tp.costs, Nd.mkLeaf])
  | h + 1, f + 1, lo, hi, s, hs => by
    obtain ⟨subs, keys, a1, a2, a3, a4, a5, a6, a7⟩ := hs
    rw [Tp.cost_eq a1, a3]
    show 2 + Tp.costs Tp.rd disk σ f (subs.map (·.id)) <= _
    unfold Tp.costs
    rw [List.map_map]
    have key : ∀ (l : List Tp.Sub), (∀ t ∈ l, t ∈ subs) -> (l.map (Tp.cost Tp.rd disk σ f ∘ (·.id))).sum <= 2 * (Tp.ids_ l).length := by
      intro l
      induction l with
      | nil => intro _; exact Nat.zero_le _
      | cons t l ih =>
        intro hl
        obtain ⟨l', h', hp⟩ := Tp.chain_all a7 t (hl t List.mem_cons_self)
        have h1 := cost_rd h f l' h' t hp
        have h2 := ih fun u hu => hl u (List.mem_cons_of_mem _ hu)
        have e : Tp.ids_ (t :: l) = t.ids ++ Tp.ids_ l := by unfold Tp.ids_; rw [List.flatMap_cons]
        rw [e, List.length_append, List.map_cons, List.sum_cons]
        show Tp.cost Tp.rd disk σ f t.id + _ <= _
        omega
    have := key subs fun _ h => h
    rw [List.length_cons]
    omega
theorem tmd_start {F : FFile} {n N : Nat} {disk : Tp.Disk} {w : World} {R : Int} (hF : F.At w R) (hR : 0 <= R) (r : Nat) (hRr : R + (r : Nat) <= 900000) (ho : FOn F n disk N) (hN : N < 1000000) (hT : HT w) (hB0 : 0 < F.B) (hBw : F.B <= w.heap.size)
    (A : Option Addr) (c : Nat) (l : List Run) (pages : Int) (hr : RS w w.heap.size A l) (hl : l.length <= 50000) (hfd : ∀ id x, disk id = some x -> id < pagesN pages n /\ ¬ Rp.Mem l id) :
    Calls Tryz.prog 34 #[.pointer (some ⟨F.f, 0, none⟩), .slice A l.length c, .int .i64 pages] w fun e w' => ∃ t m, e = .returned (.pointer (some ⟨t, 0, none⟩)) /\ TMd F w'.heap.size t m n (Rp.minus [(2, pagesN pages n - 1)] l) disk r ⟨Rp.meet l [(2, pagesN pages n - 1)], pagesN pages n, [], fun _ => none⟩ w' /\ (w.heap.size <= t /\ w.heap.size <= m /\ F.d < w'.heap.size) /\ Below w.heap.size w w' := by
  obtain ⟨cc, c1, c2⟩ := ho.c
  have hsz := c1.ok.size
  have hfo := hF.fileOf
  rw [hsz] at hfo
  refine (tnew_any F.f n A c l pages ho.hn w hfo hr hl).mono ?_
  rintro e w' ⟨t, m, rfl, ⟨ht, hm⟩, hT', hb⟩
  have hp : 2 <= pagesN pages n /\ pagesN pages n <= max (n : Int) 2 /\ max (n : Int) 2 <= 100000 := by have := ho.hn; unfold pagesN; omega
  have htl : t < w'.heap.size := by obtain ⟨_, ⟨v, h2, _⟩, _⟩ := hT'; exact h2.lt
  have hml : m < w'.heap.size := by obtain ⟨_, _, es, c, h2, _⟩ := hT'; exact (Array.getElem?_eq_some_iff.1 h2).1
  have hlow := hF.low
  refine ⟨t, m, rfl, ⟨⟨htl, hml, Nat.le_refl _⟩, fun g hg => ?_, ⟨hB0, by omega, by omega⟩, hT.below hb (by have := hT.1; omega), ⟨Rp.Ap.start l hp, fun id hi => absurd hi List.not_mem_nil, .map [], hT', KeysAre.nil_, fun id hi => absurd hi List.not_mem_nil⟩, ho.on hN (fun id x hx => ?_), R, hR, hRr, hF.fr (S := fun _ => False) (.of_below hb) (fun _ _ a => a)⟩, ⟨ht, hm, ?_⟩, hb⟩
  · have := hlow g hg
    omega
  · obtain ⟨g1, g2⟩ := hfd id x hx
    obtain ⟨g3, g4, g5⟩ := c2 id x hx
    have hno : ¬ id < 2 /\ ¬ (n : Int) <= id := by simpa [noPage] using g4
    exact ((Rp.minus_ok [(2, pagesN pages n - 1)] l).2 id).2 ⟨by omega, by unfold Rp.Most; omega, Rp.mem_two.2 ⟨by omega, g1⟩, g2⟩
  · have := hlow F.d (.inr (.inl rfl)); have := hb.size; omega
structure FSt (F : FFile) (n : Nat) (a : TAd) (used : List Run) (disk : Tp.Disk) (root : Int) (σ : Tp.Pst) (ids : List Int) (es : List Ent) (tok r : Nat) (w : World) : Prop where
  on : On (SD F a.t a.m) a.B a.t a.u (TMd F a.B a.t a.m n used disk) root 0 r σ w
  hd : F.d < a.B
  rt : Tp.RootAt disk used σ root es tok ids
  mine : ∀ x, x ∈ σ.mine -> x ∈ ids
  tl : tok <= 200000
def FU (F : FFile) (a : TAd) (k : Nat) : Prop := SD F a.t a.m k \/ k = a.u
section
variable {F : FFile} {n : Nat} {a : TAd} {used : List Run} {disk : Tp.Disk} {root : Int} {σ : Tp.Pst} {ids : List Int} {es : List Ent} {tok r r' : Nat} {w w' : World}
theorem FSt.mach (h : FSt F n a used disk root σ ids es tok r w) : Mach (SD F a.t a.m) a.B a.t (max (n : Int) 2) disk (TMd F a.B a.t a.m n used disk) := mach_disk F h.on.tm.low.1 h.on.tm.low.2.1 h.hd n used disk
theorem FSt.below (h : FSt F n a used disk root σ ids es tok r w) (hb : Below w.heap.size w w') : FSt F n a used disk root σ ids es tok r w' := ⟨h.on.below h.mach hb, h.hd, h.rt, h.mine, h.tl⟩
theorem FSt.less (h : FSt F n a used disk root σ ids es tok r w) (hr : r' <= r) : FSt F n a used disk root σ ids es tok r' w := ⟨h.on.less h.mach hr, h.hd, h.rt, h.mine, h.tl⟩
theorem FSt.with_ (h : FSt F n a used disk root σ ids es tok r w) (ho : On (SD F a.t a.m) a.B a.t a.u (TMd F a.B a.t a.m n used disk) root 0 r' σ w') : FSt F n a used disk root σ ids es tok r' w' := ⟨ho, h.hd, h.rt, h.mine, h.tl⟩
theorem FSt.low (h : FSt F n a used disk root σ ids es tok r w) : ∀ k, FU F a k -> k < w.heap.size := fun k hk => by
  have h1 := h.on.tm.low
  rcases hk with hk | rfl
  · have := h.mach.low k hk; omega
  · exact h.on.self.lt
theorem FSt.nodup (h : FSt F n a used disk root σ ids es tok r w) : ids.Nodup := by
  rcases h.rt with ⟨_, _, rfl⟩ | ⟨_, s, _, _, _, _, _, q, _⟩
  · exact List.nodup_nil
  · exact q
theorem FSt.up (h : FSt F n a used disk root σ ids es tok r w) {g : List Ent -> List Ent} {key : ByteArray} {N tok' : Nat} (hU : Tp.Res (max (n : Int) 2) disk used σ (fun x => x ∈ ids) N (Tp.pUpdate (max (n : Int) 2) disk g key σ root) (fun root' σ' ids' => Tp.RootAt disk used σ' root' (g es) tok' ids')) (ht : tok' <= 200000) :
    (∃ root' σ' ids', Tp.pUpdate (max (n : Int) 2) disk g key σ root = (.ok root', σ') /\ σ'.mine.length <= σ.mine.length + N /\ ∀ w' r', On (SD F a.t a.m) a.B a.t a.u (TMd F a.B a.t a.m n used disk) root' 0 r' σ' w' -> FSt F n a used disk root' σ' ids' (g es) tok' r' w') \/
    (∃ σ', Tp.pUpdate (max (n : Int) 2) disk g key σ root = (.error 2, σ') /\ Tp.spare (max (n : Int) 2) used <= (σ.mine.length : Int) + N) := by
  generalize Tp.pUpdate (max (n : Int) 2) disk g key σ root = o at *
  obtain ⟨o, σ'⟩ := o
  rcases hU with ⟨root', ids', e1, s1, n1, l1, q1⟩ | ⟨e1, s1, l1⟩
  · simp only at e1 s1 q1
    subst e1
    refine .inl ⟨root', σ', ids', rfl, l1, fun w' r' ho => ⟨ho, h.hd, q1, fun x hx => ?_, ht⟩⟩
    rcases (s1.mem x).1 hx with ⟨a1, a2⟩ | ⟨a1, _⟩
    · exact absurd (h.mine x a1) a2
    · exact a1
  · simp only at e1
    subst e1
    exact .inr ⟨σ', rfl, l1⟩
def FErr (F : FFile) (n : Nat) (a : TAd) (used : List Run) (disk : Tp.Disk) (r : Nat) (w : World) : Prop := F.d < a.B /\ ∃ root σ, On (SD F a.t a.m) a.B a.t a.u (TMd F a.B a.t a.m n used disk) root 2 r σ w
theorem fst_put (h : FSt F n a used disk root σ ids es tok (r + 240) w) {k v : ByteArray} (hm : En.may k v = true) (ht : tok + 1 <= 200000) :
    Calls Tryz.prog 15 #[.pointer (some ⟨a.u, 0, none⟩), .string k, .string v] w fun e w' => ((e = .returned (.int .i64 0) /\ ∃ root' σ' ids', FSt F n a used disk root' σ' ids' (En.put es k v) (tok + dput es k) r w' /\ σ'.mine.length <= σ.mine.length + 40) \/ (e = .returned (.int .i64 2) /\ FErr F n a used disk r w' /\ Tp.spare (max (n : Int) 2) used <= (σ.mine.length : Int) + 40)) /\ Fr (FU F a) w w' := by
  have hg := gPut_eq h.rt.right hm
  have hd := dput_le es k
  have hU := Tp.update_ok (room := max (n : Int) 2) (Tp.gPut_op hm) h.on.tm.mem.ap h.rt (by have := h.tl; omega) (dput es k) (by rw [hg]; exact eput_len es)
  have h2 := h.up hU (by omega)
  have h3 : (Tp.pUpdate (max (n : Int) 2) disk (Tp.gPut k v) k σ root).1 ≠ .error 3 := by
    rcases h2 with ⟨a1, a2, a3, e, _⟩ | ⟨a1, e, _⟩ <;> rw [e] <;> simp
  refine (ctput_may h.mach a.u root k v hm r σ h3 w h.on).mono ?_
  rintro e w' ⟨hres, hf⟩
  refine ⟨?_, hf⟩
  rcases h2 with ⟨root', σ', ids', e1, l1, h2⟩ | ⟨σ', e1, l1⟩
  · rw [e1] at hres
    rcases hres with ⟨p, hp, rfl, ho⟩ | ⟨hp, _⟩
    · injection hp with hp
      subst hp
      refine .inl ⟨rfl, root', σ', ids', ?_, l1⟩
      rw [<- hg]
      exact h2 w' r ho
    · cases hp
  · rw [e1] at hres
    rcases hres with ⟨p, hp, rfl, ho⟩ | ⟨_, rfl, ho⟩
    · cases hp
    · exact .inr ⟨rfl, ⟨h.hd, root, σ', ho⟩, l1⟩
theorem fst_putno (h : FSt F n a used disk root σ ids es tok r w) {k v : ByteArray} (hm : En.may k v = false) :
    Calls Tryz.prog 15 #[.pointer (some ⟨a.u, 0, none⟩), .string k, .string v] w fun e w' => e = .returned (.int .i64 110) /\ FSt F n a used disk root σ ids es tok r w' /\ Below w.heap.size w w' := by
  refine (ctput_no h.mach a.u root k v hm r σ w h.on).mono ?_
  rintro e w' ⟨rfl, ho, hb⟩
  exact ⟨rfl, h.with_ ho, hb⟩
theorem FSt.nz (h : FSt F n a used disk root σ ids es tok r w) {x : Int} (hx : Tp.Use used σ x) : x ≠ 0 := fun e => by
  have := Tp.use_range (room := max (n : Int) 2) h.on.tm.mem.ap hx
  omega
theorem FSt.find (h : FSt F n a used disk root σ ids es tok r w) (k : ByteArray) : Tp.pFind disk σ k 24 root = .ok (En.get es k) := by
  rcases h.rt with ⟨rfl, rfl, rfl⟩ | ⟨hh, s, rfl, rfl, rfl, q4, q5, q6, q7, q8⟩
  · rfl
  · have hz : s.id ≠ 0 := h.nz (q7 s.id (Tp.tr_id q5))
    have h8 := Tp.low_of q8 (by have := h.tl; omega)
    exact Tp.find_tr hh 24 none none s (by omega) q5 hz (fun a h => by cases h) (fun a h => by cases h)
theorem fst_del (h : FSt F n a used disk root σ ids es tok (r + 288) w) (k : ByteArray) :
    Calls Tryz.prog 21 #[.pointer (some ⟨a.u, 0, none⟩), .string k] w fun e w' => ((e = .returned (.tuple #[.bool (En.get es k).isSome, .int .i64 0]) /\ ∃ root' σ' ids', FSt F n a used disk root' σ' ids' (En.del es k) tok r w' /\ σ'.mine.length <= σ.mine.length + 40) \/ (e = .returned (.tuple #[.bool false, .int .i64 2]) /\ FErr F n a used disk r w' /\ Tp.spare (max (n : Int) 2) used <= (σ.mine.length : Int) + 40)) /\ Fr (FU F a) w w' := by
  have hfd := h.find k
  cases hgk : En.get es k with
  | none =>
    rw [hgk] at hfd
    refine (tdel_none h.mach a.u root k (r + 240) σ hfd w h.on).mono ?_
    rintro e w' ⟨rfl, ho, hf⟩
    refine ⟨.inl ⟨rfl, root, σ, ids, ?_, by omega⟩, hf.more fun _ => .inl⟩
    rw [del_none_ hgk]
    exact (h.with_ ho).less (by omega)
  | some v =>
    rw [hgk] at hfd
    have hg := gDel_eq (k := k) h.rt.right
    have hU := Tp.update_ok (room := max (n : Int) 2) (Tp.gDel_op k) h.on.tm.mem.ap h.rt (by have := h.tl; omega) 0 (by rw [hg]; exact del_len es k)
    have h2 := h.up hU (by have := h.tl; omega)
    have h3 : (Tp.pUpdate (max (n : Int) 2) disk (Tp.gDel k) k σ root).1 ≠ .error 3 := by
      rcases h2 with ⟨a1, a2, a3, e, _⟩ | ⟨a1, e, _⟩ <;> rw [e] <;> simp
    refine (tdel_some h.mach a.u root k v r σ hfd h3 w h.on).mono ?_
    rintro e w' ⟨hres, hf⟩
    refine ⟨?_, hf⟩
    rcases h2 with ⟨root', σ', ids', e1, l1, h2⟩ | ⟨σ', e1, l1⟩
    · rw [e1] at hres
      rcases hres with ⟨p, hp, rfl, ho⟩ | ⟨hp, _⟩
      · injection hp with hp
        subst hp
        refine .inl ⟨rfl, root', σ', ids', ?_, l1⟩
        rw [<- hg]
        exact h2 w' r ho
      · cases hp
    · rw [e1] at hres
      rcases hres with ⟨p, hp, rfl, ho⟩ | ⟨_, rfl, ho⟩
      · cases hp
      · exact .inr ⟨rfl, ⟨h.hd, root, σ', ho⟩, l1⟩
def WalkD (disk : Tp.Disk) (σ : Tp.Pst) (root : Int) (ids : List Int) (es : List Ent) (tok : Nat) (P : List (Int × Nat × Nd.Node)) : Prop :=
  (root = 0 /\ es = [] /\ P = [] /\ ids = []) \/ ∃ h s, s.id = root /\ s.ids = ids /\ s.es = es /\ s.tok <= tok /\ Tp.Tr (σ.view disk) h none none s /\ (h = 0 \/ 2 * 6 ^ (h - 1) <= s.tok) /\ P = Tp.pgL (σ.view disk) h 0 root
theorem WalkD.ids_ {P : List (Int × Nat × Nd.Node)} (h : WalkD disk σ root ids es tok P) : P.map (·.1) = ids := by
  rcases h with ⟨_, _, rfl, rfl⟩ | ⟨h, s, rfl, rfl, rfl, _, ht, _, rfl⟩
  · rfl
  · exact Tp.pgL_ids h 0 none none s ht
theorem WalkD.len {P : List (Int × Nat × Nd.Node)} (h : WalkD disk σ root ids es tok P) : P.length = ids.length := by rw [<- h.ids_, List.length_map]
def FWkEnd (F : FFile) (n : Nat) (a : TAd) (used : List Run) (disk : Tp.Disk) (root : Int) (σ : Tp.Pst) (ids : List Int) (es : List Ent) (tok r : Nat) (w : World) (e : Ending) (w' : World) : Prop :=
  ∃ A c xs P, e = .returned (.tuple #[.slice A xs.length c, .int .i64 0]) /\ LO pgE 60 w' w.heap.size (.slice A xs.length c) xs /\ PgsAt w.heap.size w' xs P /\ WalkD disk σ root ids es tok P /\ FSt F n a used disk root σ ids es tok r w' /\ Fr (SD F a.t a.m) w w'
theorem fst_walk (h : FSt F n a used disk root σ ids es tok (r + 2 * ids.length) w) :
    Calls Tryz.prog 27 #[.pointer (some ⟨a.u, 0, none⟩)] w (FWkEnd F n a used disk root σ ids es tok r w) := by
  have ht := h.tl
  have h0 := h.less (r' := r) (by omega)
  rcases h.rt with ⟨rfl, rfl, rfl⟩ | ⟨hh, s, rfl, rfl, rfl, q4, q5, q6, q7, q8⟩
  · refine (wal_zero a.u r σ w h0.on).mono ?_
    rintro e w' ⟨rfl, hb⟩
    exact ⟨none, 0, [], [], rfl, LO.nil_ _ _, PgsAt.nil_ _ _, .inl ⟨rfl, rfl, rfl, rfl⟩, h0.below hb, .of_below hb⟩
  · have h8 := Tp.low_of q8 (by omega)
    have hz : s.id ≠ 0 := h.nz (q7 s.id (Tp.tr_id q5))
    have hw := Tp.walk_tr (disk := disk) (σ := σ) hh 24 none none s [] (by omega) (Nat.le_refl _) q5
    rw [List.nil_append, Nat.sub_self] at hw
    have hfew := h.rt.few
    have hcost := cost_rd (σ := σ) (disk := disk) hh 24 none none s q5
    have hl : (Tp.pgL (σ.view disk) hh 0 s.id).length <= 300000 := by
      rw [Tp.pgL_len q5]
      omega
    have hl2 : (Tp.pgL (σ.view disk) hh 0 s.id).length <= 100000 := by
      rw [Tp.pgL_len q5]
      have hr2 : ∀ x ∈ s.ids, 2 <= x /\ x < max (n : Int) 2 := fun x hx => Tp.use_range h.on.tm.mem.ap (q7 x hx)
      have hsub : s.ids ⊆ (List.range 100000).map (fun i : Nat => (2 : Int) + (i : Int)) := fun x hx => by
        have h1 := hr2 x hx
        have h3 := h.on.tm.mem.ap.pg
        exact List.mem_map.2 ⟨(x - 2).toNat, List.mem_range.2 (by omega), by omega⟩
      have := List.Nodup.length_le_of_subset q6 hsub
      simpa using this
    refine (wal_any h.mach a.u s.id hz σ _ r w hw hl2 (h.less (by omega)).on).mono ?_
    rintro e w' ⟨A, c, xs, rfl, hr, hp, ho, hf⟩
    exact ⟨A, c, xs, _, rfl, hr, hp, .inr ⟨hh, s, rfl, rfl, rfl, q4, q5, q8, rfl⟩, h.with_ ho, hf⟩
end
end Go.Proofs.YtpfplojkiloldaaGreatDoor
namespace Tp
open Nd En
theorem tr_some {v : Int -> Option Node} : ∀ {h : Nat} {lo hi : Option Str} {s : Sub}, Tr v h lo hi s -> ∀ x ∈ s.ids, ∃ n, v x = some n
  | 0, _, _, s, hs, x, hx => by
    obtain ⟨a, b, _⟩ := hs
    rw [b] at hx
    obtain rfl : x = s.id := by simpa using hx
    exact ⟨_, a⟩
  | h + 1, _, _, s, hs, x, hx => by
    obtain ⟨subs, keys, a, b, c, d, e, f, g⟩ := hs
    rw [c] at hx
    rcases List.mem_cons.1 hx with rfl | hx
    · exact ⟨_, a⟩
    · unfold ids_ at hx
      obtain ⟨t, ht, hx⟩ := List.mem_flatMap.1 hx
      obtain ⟨l, h', hp⟩ := chain_all g t ht
      exact tr_some hp x hx
def VerAt (disk : Disk) (root : Int) (es : List En.Ent) (tok : Nat) (ids : List Int) : Prop :=
  (root = 0 /\ es = [] /\ ids = []) \/ ∃ h s, s.id = root /\ s.ids = ids /\ s.es = es /\ s.tok <= tok /\ Tr disk h none none s /\ ids.Nodup /\ (h = 0 \/ 2 * 6 ^ (h - 1) <= s.tok)
variable {disk disk' : Disk} {root : Int} {es : List En.Ent} {tok tok' : Nat} {ids : List Int} {used : List Run} {σ : Pst} {room : Int}
theorem VerAt.none_ (disk : Disk) (tok : Nat) : VerAt disk 0 [] tok [] := .inl ⟨rfl, rfl, rfl⟩
theorem VerAt.congr (h : VerAt disk root es tok ids) (hd : ∀ x ∈ ids, disk' x = disk x) : VerAt disk' root es tok ids := by
  rcases h with h | ⟨hh, s, a, rfl, c, d, e, f⟩
  · exact .inl h
  · exact .inr ⟨hh, s, a, rfl, c, d, tr_congr hd e, f⟩
theorem VerAt.some_ (h : VerAt disk root es tok ids) : ∀ x ∈ ids, ∃ n, disk x = some n := by
  rcases h with ⟨_, _, rfl⟩ | ⟨hh, s, a, rfl, c, d, e, f⟩
  · exact fun x hx => absurd hx List.not_mem_nil
  · exact tr_some e
theorem VerAt.rootAt (h : VerAt disk root es tok ids) (hv : ∀ x ∈ ids, σ.view disk x = disk x) (hu : ∀ x ∈ ids, Use used σ x) : RootAt disk used σ root es tok ids := by
  rcases h with h | ⟨hh, s, a, rfl, c, d, e, f, g⟩
  · exact .inl h
  · exact .inr ⟨hh, s, a, rfl, c, d, tr_congr hv e, f, hu, g⟩
theorem RootAt.ver (h : RootAt disk used σ root es tok ids) (hv : ∀ x ∈ ids, disk' x = σ.view disk x) : VerAt disk' root es tok ids := by
  rcases h with h | ⟨hh, s, a, rfl, c, d, e, f, u, g⟩
  · exact .inl h
  · exact .inr ⟨hh, s, a, rfl, c, d, tr_congr hv e, f, g⟩
theorem RootAt.some_ (h : RootAt disk used σ root es tok ids) : ∀ x ∈ ids, ∃ n, σ.view disk x = some n := by
  rcases h with ⟨_, _, rfl⟩ | ⟨hh, s, a, rfl, c, d, e, f⟩
  · exact fun x hx => absurd hx List.not_mem_nil
  · exact tr_some e
theorem RootAt.uses (h : RootAt disk used σ root es tok ids) : ∀ x ∈ ids, Use used σ x := by
  rcases h with ⟨_, _, rfl⟩ | ⟨hh, s, a, rfl, c, d, e, f, u, g⟩
  · exact fun x hx => absurd hx List.not_mem_nil
  · exact u
def start (l : List Run) (p : Int) : Pst := ⟨Rp.meet l [(2, p - 1)], p, [], fun _ => none⟩
theorem start_view {l : List Run} {p x : Int} (h2 : 2 <= x) (hp : x < p) (hl : ¬ Rp.Mem l x) : (start l p).view disk x = disk x := by
  unfold Pst.view start
  rw [if_neg List.not_mem_nil, if_pos ⟨h2, hp, Rp.has_used fun hm => hl (((Rp.meet_ok l [(2, p - 1)]).2 x).1 hm).2.2.1⟩]
theorem start_use {l : List Run} {p x : Int} (h2 : 2 <= x) (hp : x < p) (hm : x <= Rp.Most) (hl : ¬ Rp.Mem l x) : Use (Rp.minus [(2, p - 1)] l) (start l p) x :=
  .inr (((Rp.minus_ok [(2, p - 1)] l).2 x).2 ⟨by omega, by exact hm, Rp.mem_two.2 ⟨h2, hp⟩, hl⟩)
end Tp
namespace Go.Proofs.YtpfplojkiloldaaGreatDoor
open Go.RowKit Go.Shelf
section
variable {S : Nat -> Prop} {B t : Nat} {room : Int} {disk : Tp.Disk} {TM : Nat -> Tp.Pst -> World -> Prop}
theorem put_err (M : Mach S B t room disk TM) (u : Nat) (root : Int) (k v : ByteArray) (r : Nat) (σ : Tp.Pst) (w : World) (h : On S B t u TM root 2 r σ w) :
    Calls Tryz.prog 15 #[.pointer (some ⟨u, 0, none⟩), .string k, .string v] w fun e w' => e = .returned (.int .i64 2) /\ On S B t u TM root 2 r σ w' /\ Below w.heap.size w w' := by
  have hb1 := (Below.refl w.heap.size w).alloc (Nat.le_refl _) (.cells #[.string k] 9)
  have hb2 := hb1.alloc hb1.size (.cells #[.string v] 9)
  have hon := (h.below M hb1).below M (Below.alloc (Below.refl _ _) (Nat.le_refl _) (.cells #[.string v] 9))
  have t2 : ((w.alloc (.cells #[.string k] 9)).alloc (.cells #[.string v] 9)).cell? ⟨u, 2, none⟩ = some (.int .i64 2) := hon.self.cell 2
  have lt2 := hon.self.lt
  have HON := Lib.hid hon
  have HB := Lib.hid hb2
  clear h hon hb1 hb2 M
  go_enter Tryz.func15, Tryz.ntmps15
  go_wp2
  go_ret
  exact ⟨rfl, HON.out, HB.out⟩
theorem tget_err (u : Nat) (root : Int) (k : ByteArray) (w : World) (h : Blk w u 84 (TreeV t root 2)) :
    Calls Tryz.prog 24 #[.pointer (some ⟨u, 0, none⟩), .string k] w fun e w' => e = .returned (.tuple #[.string ⟨#[]⟩, .bool false, .int .i64 2]) /\ Below w.heap.size w w' := by
  have t2 : w.cell? ⟨u, 2, none⟩ = some (.int .i64 2) := h.cell 2
  have hun := h.lt
  clear h
  go_enter Tryz.func24, Tryz.ntmps24
  go_wp2
  go_quiet (fail)
  go_wp2
  go_ret3
  exact ⟨rfl, below_drewN (Below.refl _ _) _⟩
theorem tdel_err (M : Mach S B t room disk TM) (u : Nat) (root : Int) (k : ByteArray) (r : Nat) (σ : Tp.Pst) (w : World) (h : On S B t u TM root 2 r σ w) :
    Calls Tryz.prog 21 #[.pointer (some ⟨u, 0, none⟩), .string k] w fun e w' => e = .returned (.tuple #[.bool false, .int .i64 2]) /\ On S B t u TM root 2 r σ w' /\ Fr (fun g => g = u) w w' := by
  have hb1 := (Below.refl w.heap.size w).alloc (Nat.le_refl _) (.cells #[.string k] 9)
  have hon := h.below M hb1
  have HG := Lib.hid (tget_err u root k _ hon.self)
  have HB := Lib.hid hb1
  have HON := Lib.hid hon
  have HM := Lib.hid M
  clear h hb1 M hon
  go_enter Tryz.func21, Tryz.ntmps21
  go_wp2_with fail
  refine Calls.mono HG.out ?_
  rintro e w2 ⟨rfl, hb⟩
  have hon := HON.out.below HM.out hb
  have t2 := hon.self.cell 2
  have ft2 := hon.self.frozen 2
  have lt2 := hon.self.lt
  have HON2 := Lib.hid hon
  have HB2 := Lib.hid (HB.out.trans (hb.mono HB.out.size))
  clear hon hb
  go_wp2
  go_ret2
  exact ⟨rfl, HON2.out.write HM.out (Fr.set_ (S := fun k => k = u) rfl _) (HON2.out.self.set_ 2 (.int .i64 2)), (Fr.of_below HB2.out).trans (Fr.set_ (S := fun k => k = u) rfl _)⟩
theorem each_err (u : Nat) (root : Int) (yf : FuncId) (caps : Array Value) (frm : ByteArray) (w : World) (h : Blk w u 84 (TreeV t root 2)) :
    Calls Tryz.prog 44 #[.pointer (some ⟨u, 0, none⟩), .string frm, .func (.func yf) #[] caps] w fun e w' => e = .returned (.int .i64 2) /\ Below w.heap.size w w' := by
  have hb1 := (Below.refl w.heap.size w).alloc (Nat.le_refl _) (.cells #[.func (.func yf) #[] caps] 88)
  have hon := h.below hb1 h.lt
  have t2 : (w.alloc (.cells #[.func (.func yf) #[] caps] 88)).cell? ⟨u, 2, none⟩ = some (.int .i64 2) := hon.cell 2
  have lt2 := hon.lt
  have HB := Lib.hid hb1
  clear hon hb1 h
  go_enter Tryz.func44, Tryz.ntmps44
  go_wp2
  go_ret
  exact ⟨rfl, HB.out⟩
theorem scan_err (u : Nat) (root : Int) (frm hi_ : ByteArray) (w : World) (h : Blk w u 84 (TreeV t root 2)) :
    Calls Tryz.prog 16 #[.pointer (some ⟨u, 0, none⟩), .string frm, .string hi_] w fun e w' => e = .returned (.tuple #[.slice none 0 0, .int .i64 2]) /\ Below w.heap.size w w' := by
  have hb1 := (Below.refl w.heap.size w).alloc (Nat.le_refl _) (.cells #[.string hi_] 9)
  have hb2 := hb1.alloc hb1.size (.cells #[.slice none 0 0] 32)
  have hon := h.below hb2 h.lt
  have HC := Lib.hid (fun yf caps => each_err u root yf caps frm _ hon)
  have HB := Lib.hid hb2
  clear hon hb1 hb2 h
  go_enter Tryz.func16, Tryz.ntmps16
  go_wp2_with fail
  refine Calls.mono (HC.out _ _) ?_
  rintro e w2 ⟨rfl, hb⟩
  have HE := Lib.hid (HB.out.trans (hb.mono HB.out.size))
  clear hb
  go_wp2
  go_ret2
  exact ⟨rfl, HE.out⟩
end
end Go.Proofs.YtpfplojkiloldaaGreatDoor
namespace Go.Proofs.YtpfplojkiloldaaGreatDoor
open Go.RowKit Go.Shelf Go.Maps
section
variable {F F' : FFile} {n N : Nat} {a : TAd} {used : List Run} {disk : Tp.Disk} {root root' : Int} {σ : Tp.Pst} {ids ids' : List Int} {es es' : List Ent} {tok tok' r : Nat} {w w' : World}
theorem FSt.ap (h : FSt F n a used disk root σ ids es tok r w) : Tp.ApS (max (n : Int) 2) used σ := h.on.tm.mem.ap
theorem flushed_view (hap : Tp.ApS (max (n : Int) 2) used σ) {x : Int} (hu : Tp.Use used σ x) : flushed disk σ x = σ.view disk x := by
  unfold flushed
  by_cases hm : x ∈ σ.mine
  · rw [if_pos hm, Tp.view_mine hm]
  · rw [if_neg hm]
    rcases hu with hu | hu
    · exact absurd hu hm
    · exact (Tp.view_used hap hu).symm
theorem FSt.ver (h : FSt F n a used disk root σ ids es tok r w) : Tp.VerAt (flushed disk σ) root es tok ids := h.rt.ver fun x hx => flushed_view h.ap (h.rt.uses x hx)
theorem FSt.old (h : FSt F n a used disk root σ ids es tok r w) (hv : Tp.VerAt disk root' es' tok' ids') : Tp.VerAt (flushed disk σ) root' es' tok' ids' := hv.congr fun x hx => by
  obtain ⟨y, hy⟩ := hv.some_ x hx
  unfold flushed
  rw [if_neg (h.ap.um x (h.on.tm.on.page x y hy).2.1)]
def LowD (disk : Tp.Disk) (free : List Run) (p : Int) : Prop := ∀ id x, disk id = some x -> id < p /\ ¬ Rp.Mem free id
theorem FSt.lowD (h : FSt F n a used disk root σ ids es tok r w) : LowD (flushed disk σ) σ.free σ.pages := fun id x hx => by
  unfold flushed at hx
  split at hx
  · rename_i hm
    exact ⟨(h.ap.hm id hm).2, fun hf => h.ap.fm id hf hm⟩
  · have hu := (h.on.tm.on.page id x hx).2.1
    exact ⟨(h.ap.hu id hu).2, fun hf => h.ap.fu id hf hu⟩
theorem FSt.mineLe (h : FSt F n a used disk root σ ids es tok r w) : σ.mine.length <= n := by
  have hsub : σ.mine ⊆ (List.range n).map (fun i : Nat => (2 : Int) + (i : Int)) := fun x hx => by
    have h1 := h.ap.hm x hx
    have h2 := h.ap.pg
    exact List.mem_map.2 ⟨(x - 2).toNat, List.mem_range.2 (by omega), by omega⟩
  have := List.Nodup.length_le_of_subset h.ap.nd hsub
  simpa using this
theorem fst_flush (h : FSt F n a used disk root σ ids es tok r w) (hd : FOn F n disk N) (hN : N + 2000 < 90000) (hk : F.k + 1000 < maxLen) (hml : σ.mine.length <= 1000) :
    Calls Tryz.prog 38 #[.pointer (some ⟨a.t, 0, none⟩)] w fun e w' => e = .returned (.int .i64 0) /\ ∃ F', FlDEnd F n (flushed disk σ) (N + σ.mine.length) r w F' w' :=
  tmd_flush h.on.tm hd hN hk (fun id hid => by
    obtain ⟨y, hy⟩ := h.rt.some_ id (h.mine id hid)
    rw [Tp.view_mine hid] at hy
    exact ⟨y, hy⟩) hml
theorem FlDEnd.lo {α : Type} {E : Enc α} {ty : TypeId} {base : Nat} {v : Value} {l : List α} (h : FlDEnd F n disk N r w F' w') (hl : LO E ty w base v l) (h1 : ty ≠ 110) (h2 : ty ≠ 172) (h3 : ∀ g, v.ownBlock = some g -> g ≠ F.s) : LO E ty w' base v l := by
  rcases hl with ⟨h4, h5 | ⟨g, cap, cur, hv, hb, hh, q⟩⟩
  · exact ⟨h4, .inl h5⟩
  · exact ⟨h4, .inr ⟨g, cap, cur, hv, hb, h.blk g ty _ hh h1 h2 (h3 g (by rw [hv]; rfl)), q⟩⟩
theorem FFile.At.sty {R : Int} (h : F.At w R) {g : Nat} {ty : TypeId} {cs : Array Value} (hB : Blk w g ty cs) (ht : ty ≠ 9) : g ≠ F.s := hB.ne_ h.disk.sure ht
theorem LO.blk_ {α : Type} {E : Enc α} {ty : TypeId} {base : Nat} {v : Value} {l : List α} (hl : LO E ty w base v l) {g : Nat} (hg : v.ownBlock = some g) : ∃ cs, Blk w g ty cs /\ base <= g := by
  rcases hl with ⟨_, ⟨h5, _⟩ | ⟨g', cap, cur, hv, hb, hh, _⟩⟩
  · rw [h5] at hg; cases hg
  · rw [hv] at hg
    have : g' = g := by injection hg
    subst this
    exact ⟨_, hh, hb⟩
theorem FlDEnd.row {α : Type} {E : Enc α} {ty : TypeId} {base : Nat} {v : Value} {l : List α} {R : Int} (h : FlDEnd F n disk N r w F' w') (hA : F.At w R) (hl : LO E ty w base v l) (h1 : ty ≠ 110) (h2 : ty ≠ 172) (h3 : ty ≠ 9) : LO E ty w' base v l :=
  h.lo hl h1 h2 fun g hg => by
    obtain ⟨cs, hB, _⟩ := hl.blk_ hg
    exact hA.sty hB h3
theorem FlDEnd.own {base : Nat} {v : Value} {l : List Run} {R : Int} (h : FlDEnd F n disk N r w F' w') (hA : F.At w R) (hl : Own w base v l) : Own w' base v l := by
  rcases hl with ⟨h4, h5 | ⟨g, cap, cur, hv, hb, hh, q⟩⟩
  · exact ⟨h4, .inl h5⟩
  · exact ⟨h4, .inr ⟨g, cap, cur, hv, hb, h.blk g 120 _ hh (by decide) (by decide) (hA.sty hh (by decide)), q⟩⟩
theorem FlDEnd.txn {R : Int} {t m k : Nat} {free : List Run} {pages : Int} {D : DataW Value} (h : FlDEnd F n disk N r w F' w') (hA : F.At w R) (ht : Txn w t m F.f n free pages k D) (hm : m ≠ F.m) : Txn w' t m F.f n free pages k D := by
  obtain ⟨h1, ⟨v, h2, h3⟩, es, c, h4, h5⟩ := ht
  obtain ⟨R', r1, r2, r3⟩ := h.file
  have hs := r3.fileOf
  obtain ⟨cc, c1, c2⟩ := h.on.c
  rw [c1.ok.size, h.same.2.1] at hs
  exact ⟨hs, ⟨v, h.blk t _ _ h2 (by decide) (by decide) (hA.sty h2 (by decide)), h.own hA h3⟩, es, c, h.map m es c hm h4, h5⟩
theorem FlDEnd.ht (h : FlDEnd F n disk N r w F' w') (hT : HT w) (hB : 0 < F.B) : HT w' := by
  have hb := h.below.mono (show 1 <= F.B from hB)
  refine ⟨Nat.lt_of_lt_of_le hT.1 hb.size, fun i hi => ?_⟩
  rw [<- hT.2 i hi]
  exact hb.cell (p := ⟨0, i, none⟩) (Nat.zero_lt_one)
def TxB (F : FFile) (t n : Nat) (free : List Run) (pages : Int) (b : Nat) (w : World) : Prop :=
  ∃ (w1 : World) (m k : Nat) (D : DataW Value) (cs : Array Value), w1.heap.size <= b /\ Txn w1 t m F.f n free pages k D /\ Blk w1 F.d 110 cs /\ Fr (fun g => g = F.d \/ b <= g) w1 w
theorem TxB.of {R : Int} {t m k : Nat} {free : List Run} {pages : Int} {D : DataW Value} (h : Txn w t m F.f n free pages k D) (hA : F.At w R) : TxB F t n free pages w.heap.size w :=
  ⟨w, m, k, D, _, Nat.le_refl _, h, hA.disk.self, Fr.refl _⟩
theorem TxB.fr {t b : Nat} {free : List Run} {pages : Int} {S : Nat -> Prop} (h : TxB F t n free pages b w) (hf : Fr S w w') (hS : ∀ g, S g -> g = F.d \/ b <= g) : TxB F t n free pages b w' := by
  obtain ⟨w1, m, k, D, cs, h1, h2, h3, h4⟩ := h
  exact ⟨w1, m, k, D, cs, h1, h2, h3, h4.trans (hf.more hS)⟩
theorem TxB.txn {t b : Nat} {free : List Run} {pages : Int} {R : Int} (h : TxB F t n free pages b w) (hA : F.At w R) (hn : F.D.sure.length = n) : ∃ m k D, Txn w t m F.f n free pages k D := by
  obtain ⟨w1, m, k, D, cs, h1, ⟨_, ⟨v, h2, h3⟩, es, c, h4, h5⟩, h6, hf⟩ := h
  have hb : ∀ {g : Nat} {o : Obj}, w1.heap[g]? = some o -> (∀ cs, o ≠ .cells cs 110) -> w.heap[g]? = some o := fun {g o} ho hne => (hf.block g (Array.getElem?_eq_some_iff.1 ho).1 (fun e => by
    have := (Array.getElem?_eq_some_iff.1 ho).1
    rcases e with rfl | e
    · have e2 := ho.symm.trans h6
      injection e2 with e2
      exact hne _ e2
    · omega)).trans ho
  refine ⟨m, k, D, hn ▸ hA.fileOf, ⟨v, hb h2 (fun cs e => by injection e with _ e; cases e), ?_⟩, es, c, hb h4 (fun cs e => by cases e), h5⟩
  rcases h3 with ⟨e1, e2 | ⟨g, cap, cur, hv, hbb, hh, hr⟩⟩
  · exact ⟨e1, .inl e2⟩
  · exact ⟨e1, .inr ⟨g, cap, cur, hv, hbb, hb hh (fun cs e => by injection e with _ e; cases e), hr⟩⟩
theorem fst_new {B t m r : Nat} {P : Int} {l : List Run} (h : TMd F B t m n (Rp.minus [(2, P - 1)] l) disk r (Tp.start l P) w) (hd : F.d < B) (hv : Tp.VerAt disk root es tok ids) (htl : tok <= 200000) (hon : ∀ x y, disk x = some y -> noPage n x = false) (hn : n <= 16384) (hlow : LowD disk l P) :
    Calls Tryz.prog 33 #[.pointer (some ⟨t, 0, none⟩), .int .i64 root] w fun e w' => ∃ a : TAd, e = .returned (.pointer (some ⟨a.u, 0, none⟩)) /\ a.t = t /\ a.m = m /\ FSt F n a (Rp.minus [(2, P - 1)] l) disk root (Tp.start l P) ids es tok r w' /\ w.heap.size <= a.u /\ Below w.heap.size w w' := by
  have M := mach_disk F h.low.1 h.low.2.1 hd n (Rp.minus [(2, P - 1)] l) disk
  refine (ctnew_any M root r (Tp.start l P) w h).mono ?_
  rintro e w' ⟨u, rfl, h1, h2, h3⟩
  have hx : ∀ x ∈ ids, (2 <= x /\ x < P /\ x <= Rp.Most) /\ ¬ Rp.Mem l x := fun x hx => by
    obtain ⟨y, hy⟩ := hv.some_ x hx
    have h4 := hlow x y hy
    have h5 := hon x y hy
    have h6 : ¬ x < 2 /\ ¬ (n : Int) <= x := by simpa [noPage] using h5
    exact ⟨⟨by omega, h4.1, by unfold Rp.Most; omega⟩, h4.2⟩
  exact ⟨⟨B, t, m, F.f, u⟩, rfl, rfl, rfl, ⟨h1, hd, hv.rootAt (fun x hx' => Tp.start_view (hx x hx').1.1 (hx x hx').1.2.1 (hx x hx').2) (fun x hx' => Tp.start_use (hx x hx').1.1 (hx x hx').1.2.1 (hx x hx').1.2.2 (hx x hx').2), fun x hx => absurd hx List.not_mem_nil, htl⟩, h2, h3⟩
end
end Go.Proofs.YtpfplojkiloldaaGreatDoor
namespace Go.Proofs.YtpfplojkiloldaaGreatDoor
open Go.RowKit Go.Shelf Go.Maps
theorem file_start {B0 d n : Nat} {w : World} (hn : n <= 16384) {f : Nat} (h : FAt w B0 f d 0 (fresh n)) : ∃ F : FFile, F.B = B0 /\ F.f = f /\ F.d = d /\ F.k = 0 /\ F.At w 0 /\ FOn F n noDisk 0 := by
  obtain ⟨s, m, pv, Dm, h1⟩ := h.open_
  exact ⟨⟨B0, f, d, 0, s, m, pv, Dm, fresh n⟩, rfl, rfl, rfl, rfl, h1, hn, ⟨fun _ => none, fresh_c, fun _ _ h => by cases h⟩, ⟨Int.le_refl _, Int.le_refl _⟩, by show ([] : List _).length <= 0; simp⟩
section
variable {F F' : FFile} {n : Nat} {a : TAd} {used : List Run} {disk : Tp.Disk} {root : Int} {es : List Ent} {tok r r' T : Nat} {w0 w w' : World} {z : Int}
structure FTr (w0 : World) (F : FFile) (n : Nat) (a : TAd) (used : List Run) (disk : Tp.Disk) (T r : Nat) (es : List Ent) (w : World) : Prop where
  at_ : ∃ root σ ids tok, FSt F n a used disk root σ ids es tok r w /\ tok <= T
  hF : ∀ k, FU F a k -> w0.heap.size <= k
  below : Below w0.heap.size w0 w
theorem FTr.up (h : FTr w0 F n a used disk T r es w) (hb : Below w.heap.size w w') : FTr w0 F n a used disk T r es w' := by
  obtain ⟨⟨root, σ, ids, tok, h1, h2⟩, h3, h4⟩ := h
  exact ⟨⟨root, σ, ids, tok, h1.below hb, h2⟩, h3, h4.trans (hb.mono h4.size)⟩
theorem FTr.less {T' : Nat} (h : FTr w0 F n a used disk T r es w) (hr : r' <= r) (hT : T <= T') : FTr w0 F n a used disk T' r' es w := by
  obtain ⟨⟨root, σ, ids, tok, h1, h2⟩, h3, h4⟩ := h
  exact ⟨⟨root, σ, ids, tok, h1.less hr, by omega⟩, h3, h4⟩
def PuEnd (w0 : World) (F : FFile) (n : Nat) (a : TAd) (used : List Run) (disk : Tp.Disk) (T r : Nat) (es : List Ent) (z : Int) (w : World) : Prop :=
  (z = 0 /\ FTr w0 F n a used disk T r es w) \/ (z = 2 /\ FErr F n a used disk r w)
theorem ftr_put (h : FTr w0 F n a used disk T (r + 240) es w) {k v : ByteArray} (hm : En.may k v = true) (hT : T + 1 <= 200000) :
    Calls Tryz.prog 15 #[.pointer (some ⟨a.u, 0, none⟩), .string k, .string v] w fun e w' => ∃ z : Int, e = .returned (.int .i64 z) /\ PuEnd w0 F n a used disk (T + 1) r (En.put es k v) z w' /\ Fr (FU F a) w w' /\ Below w0.heap.size w w' := by
  obtain ⟨⟨root, σ, ids, tok, h1, h2⟩, h3, h4⟩ := h
  refine (fst_put h1 hm (by omega)).mono ?_
  rintro e w' ⟨hres, f⟩
  have hb := f.low h4.size h3
  rcases hres with ⟨rfl, root', σ', ids', g1, g2⟩ | ⟨rfl, g1, g2⟩
  · exact ⟨0, rfl, .inl ⟨rfl, ⟨root', σ', ids', _, g1, by have := dput_le es k; omega⟩, h3, h4.trans hb⟩, f, hb⟩
  · exact ⟨2, rfl, .inr ⟨rfl, g1⟩, f, hb⟩
def UAt (F : FFile) (n : Nat) (a : TAd) (used : List Run) (disk : Tp.Disk) (T r : Nat) (z : Int) (w : World) : Prop :=
  (z = 0 /\ ∃ root σ ids es tok, FSt F n a used disk root σ ids es tok r w /\ tok <= T) \/ (z = 2 /\ FErr F n a used disk r w)
theorem UAt.zs (h : UAt F n a used disk T r z w) : z = 0 \/ z = 2 := h.imp (·.1) (·.1)
theorem UAt.self (h : UAt F n a used disk T r z w) : ∃ root, Blk w a.u 84 (TreeV a.t root z) := by
  rcases h with ⟨rfl, root, σ, ids, es, tok, h, _⟩ | ⟨rfl, _, root, σ, h⟩
  · exact ⟨root, h.on.self⟩
  · exact ⟨root, h.self⟩
theorem UAt.tmd (h : UAt F n a used disk T r z w) : ∃ σ, TMd F a.B a.t a.m n used disk r σ w := by
  rcases h with ⟨rfl, root, σ, ids, es, tok, h, _⟩ | ⟨rfl, _, root, σ, h⟩
  · exact ⟨σ, h.on.tm⟩
  · exact ⟨σ, h.tm⟩
theorem ferr_mach (h : FErr F n a used disk r w) : Mach (SD F a.t a.m) a.B a.t (max (n : Int) 2) disk (TMd F a.B a.t a.m n used disk) := by
  obtain ⟨h1, root, σ, h2⟩ := h
  exact mach_disk F h2.tm.low.1 h2.tm.low.2.1 h1 n used disk
theorem UAt.mach (h : UAt F n a used disk T r z w) : Mach (SD F a.t a.m) a.B a.t (max (n : Int) 2) disk (TMd F a.B a.t a.m n used disk) := by
  rcases h with ⟨rfl, root, σ, ids, es, tok, h, _⟩ | ⟨rfl, h⟩
  · exact h.mach
  · exact ferr_mach h
theorem UAt.below (h : UAt F n a used disk T r z w) (hb : Below w.heap.size w w') : UAt F n a used disk T r z w' := by
  have M := h.mach
  rcases h with ⟨rfl, root, σ, ids, es, tok, h, h2⟩ | ⟨rfl, h1, root, σ, h⟩
  · exact .inl ⟨rfl, root, σ, ids, es, tok, h.below hb, h2⟩
  · exact .inr ⟨rfl, h1, root, σ, h.below M hb⟩
theorem UAt.less {T' : Nat} (h : UAt F n a used disk T r z w) (hr : r' <= r) (hT : T <= T') : UAt F n a used disk T' r' z w := by
  have M := h.mach
  rcases h with ⟨rfl, root, σ, ids, es, tok, h, h2⟩ | ⟨rfl, h1, root, σ, h⟩
  · exact .inl ⟨rfl, root, σ, ids, es, tok, h.less hr, by omega⟩
  · exact .inr ⟨rfl, h1, root, σ, h.less M hr⟩
theorem uat_err (h : UAt F n a used disk T r z w) : Calls Tryz.prog 26 #[.pointer (some ⟨a.u, 0, none⟩)] w fun e w' => e = .returned (.int .i64 z) /\ w' = w := by
  obtain ⟨root, hb⟩ := h.self
  exact terr_any a.u root z w hb
def Told (z v z' : Int) : Prop := (z = 2 /\ v = 2 /\ z' = 2) \/ (z = 0 /\ v = 0 /\ z' = 0) \/ (z = 0 /\ v = 2 /\ z' = 2)
theorem uat_put (h : UAt F n a used disk T (r + 288) z w) (k v : ByteArray) (hT : T + 1 <= 200000) :
    Calls Tryz.prog 15 #[.pointer (some ⟨a.u, 0, none⟩), .string k, .string v] w fun e w' => ∃ v z' : Int, e = .returned (.int .i64 v) /\ (Told z v z' \/ (z = 0 /\ v = 110 /\ z' = 0)) /\ UAt F n a used disk (T + 1) r z' w' /\ Fr (FU F a) w w' := by
  have M := h.mach
  rcases h with ⟨rfl, root, σ, ids, es, tok, h, h2⟩ | ⟨rfl, h1, root, σ, h⟩
  · cases hm : En.may k v with
    | true =>
      refine (fst_put (h.less (show r + 240 <= r + 288 by omega)) hm (by omega)).mono ?_
      rintro e w' ⟨hres, f⟩
      rcases hres with ⟨rfl, root', σ', ids', g1, g2⟩ | ⟨rfl, g1, g2⟩
      · exact ⟨0, 0, rfl, .inl (.inr (.inl ⟨rfl, rfl, rfl⟩)), .inl ⟨rfl, root', σ', ids', _, _, g1, by have := dput_le es k; omega⟩, f⟩
      · exact ⟨2, 2, rfl, .inl (.inr (.inr ⟨rfl, rfl, rfl⟩)), .inr ⟨rfl, g1⟩, f⟩
    | false =>
      refine (fst_putno h hm).mono ?_
      rintro e w' ⟨rfl, g1, g2⟩
      exact ⟨110, 0, rfl, .inr ⟨rfl, rfl, rfl⟩, .inl ⟨rfl, _, _, _, _, _, g1.less (by omega), by omega⟩, .of_below g2⟩
  · refine (put_err M a.u root k v (r + 288) σ w h).mono ?_
    rintro e w' ⟨rfl, g1, g2⟩
    exact ⟨2, 2, rfl, .inl (.inl ⟨rfl, rfl, rfl⟩), .inr ⟨rfl, h1, root, σ, g1.less M (by omega)⟩, .of_below g2⟩
theorem uat_del (h : UAt F n a used disk T (r + 288) z w) (k : ByteArray) :
    Calls Tryz.prog 21 #[.pointer (some ⟨a.u, 0, none⟩), .string k] w fun e w' => ∃ (b : Bool) (v z' : Int), e = .returned (.tuple #[.bool b, .int .i64 v]) /\ Told z v z' /\ UAt F n a used disk T r z' w' /\ Fr (FU F a) w w' := by
  have M := h.mach
  rcases h with ⟨rfl, root, σ, ids, es, tok, h, h2⟩ | ⟨rfl, h1, root, σ, h⟩
  · refine (fst_del h k).mono ?_
    rintro e w' ⟨hres, f⟩
    rcases hres with ⟨rfl, root', σ', ids', g1, g2⟩ | ⟨rfl, g1, g2⟩
    · exact ⟨_, 0, 0, rfl, .inr (.inl ⟨rfl, rfl, rfl⟩), .inl ⟨rfl, root', σ', ids', _, _, g1, h2⟩, f⟩
    · exact ⟨_, 2, 2, rfl, .inr (.inr ⟨rfl, rfl, rfl⟩), .inr ⟨rfl, g1⟩, f⟩
  · refine (tdel_err M a.u root k (r + 288) σ w h).mono ?_
    rintro e w' ⟨rfl, g1, g2⟩
    exact ⟨_, 2, 2, rfl, .inl ⟨rfl, rfl, rfl⟩, .inr ⟨rfl, h1, root, σ, g1.less M (by omega)⟩, g2.more fun _ => .inr⟩
structure FReady (F : FFile) (n : Nat) (disk : Tp.Disk) (N r : Nat) (w : World) : Prop where
  on : FOn F n disk N
  file : ∃ R : Int, 0 <= R /\ R + (r : Nat) <= 900000 /\ F.At w R
  ht : HT w
  b0 : 0 < F.B
  bw : F.B <= w.heap.size
theorem FReady.below {N : Nat} (h : FReady F n disk N r w) (hb : Below w.heap.size w w') : FReady F n disk N r w' := by
  obtain ⟨h1, ⟨R, r1, r2, r3⟩, h3, h4, h5⟩ := h
  exact ⟨h1, ⟨R, r1, r2, r3.fr (S := fun _ => False) (.of_below hb) (fun _ _ a => a)⟩, h3.below hb (by have := h3.1; omega), h4, Nat.le_trans h5 hb.size⟩
theorem FReady.less {N : Nat} (h : FReady F n disk N r w) (hr : r' <= r) : FReady F n disk N r' w := by
  obtain ⟨h1, ⟨R, r1, r2, r3⟩, h3, h4, h5⟩ := h
  exact ⟨h1, ⟨R, r1, by omega, r3⟩, h3, h4, h5⟩
theorem FReady.of {B t m N : Nat} {σ : Tp.Pst} (h : TMd F B t m n used disk r σ w) (ho : FOn F n disk N) : FReady F n disk N r w := by
  obtain ⟨R, r1, r2, r3⟩ := h.file
  exact ⟨ho, ⟨R, r1, r2, r3⟩, h.ht, h.base.1, by have := h.base.2.1; have := h.low.1; have := h.low.2.2; omega⟩
theorem FReady.dlt {N : Nat} (h : FReady F n disk N r w) : F.B <= F.d /\ F.d < w.heap.size := by
  obtain ⟨R, r1, r2, r3⟩ := h.file
  exact ⟨r3.disk.le.1, r3.disk.self.lt⟩
theorem fr_begin {N : Nat} (h : FReady F n disk N r w) (hN : N < 1000000) (A : Option Addr) (c : Nat) (l : List Run) (p P : Int) (hP : pagesN p n = P) (hr : RS w w.heap.size A l) (hl : l.length <= 50000) (hlow : LowD disk l P) :
    Calls Tryz.prog 34 #[.pointer (some ⟨F.f, 0, none⟩), .slice A l.length c, .int .i64 p] w fun e w' => ∃ t m, e = .returned (.pointer (some ⟨t, 0, none⟩)) /\ TMd F w'.heap.size t m n (Rp.minus [(2, P - 1)] l) disk r (Tp.start l P) w' /\ (w.heap.size <= t /\ w.heap.size <= m /\ F.d < w'.heap.size) /\ Below w.heap.size w w' := by
  obtain ⟨h1, ⟨R, r1, r2, r3⟩, h3, h4, h5⟩ := h
  subst hP
  exact tmd_start r3 r1 r r2 h1 hN h3 h4 h5 A c l p hr hl hlow
structure FlD2 (F : FFile) (n : Nat) (a : TAd) (disk : Tp.Disk) (root : Int) (σ : Tp.Pst) (ids : List Int) (es : List Ent) (tok N r : Nat) (w : World) (F' : FFile) (disk' : Tp.Disk) (w' : World) : Prop where
  same : F'.B = F.B /\ F'.f = F.f /\ F'.d = F.d /\ F'.k = 0
  ready : FReady F' n disk' (N + σ.mine.length) r w'
  ver : Tp.VerAt disk' root es tok ids
  old : ∀ (root' : Int) (es' : List Ent) (tok' : Nat) (ids' : List Int), Tp.VerAt disk root' es' tok' ids' -> Tp.VerAt disk' root' es' tok' ids'
  low : LowD disk' σ.free σ.pages
  pg : pagesN σ.pages n = σ.pages
  fl : σ.free.length <= 50000
  tx : TxB F' a.t n σ.free σ.pages w'.heap.size w'
  self : Blk w' a.u 84 (TreeV a.t root 0)
  below : Below F.B w w'
  row : ∀ (α : Type) (E : Enc α) (ty : TypeId) (base : Nat) (v : Value) (l : List α), LO E ty w base v l -> ty ≠ 110 -> ty ≠ 172 -> ty ≠ 9 -> LO E ty w' base v l
  blk : ∀ (g : Nat) (ty : TypeId) (cs : Array Value), Blk w g ty cs -> ty ≠ 110 -> ty ≠ 172 -> ty ≠ 9 -> Blk w' g ty cs
theorem free_len {room p : Int} {fr used : List Run} {mine : List Int} (h : Rp.Ap room fr used mine p) (hp : room <= 16384) : fr.length <= 50000 := by
  have h0 := h.pg
  have h1 := canon_len fr 0 p h.cf (fun x hx => (h.hf x hx).2)
  omega
theorem fst_flush2 {ids : List Int} {σ : Tp.Pst} {N : Nat} (h : FSt F n a used disk root σ ids es tok r w) (hd : FOn F n disk N) (hN : N + 2000 < 90000) (hk : F.k + 1000 < maxLen) (hml : σ.mine.length <= 1000) :
    Calls Tryz.prog 38 #[.pointer (some ⟨a.t, 0, none⟩)] w fun e w' => e = .returned (.int .i64 0) /\ ∃ F' disk', FlD2 F n a disk root σ ids es tok N r w F' disk' w' := by
  refine (fst_flush h hd hN hk hml).mono ?_
  rintro e w' ⟨rfl, F', hf⟩
  obtain ⟨R, r1, r2, r3⟩ := h.on.tm.file
  have hmm : a.m ≠ F.m := by have := (h.on.tm.sep F.m (.inr (.inr (.inr (.inl rfl))))).2; omega
  obtain ⟨D, t1, t2⟩ := h.on.tm.mem.txn
  have htx := hf.txn r3 t1 hmm
  obtain ⟨R', q1, q2, q3⟩ := hf.file
  obtain ⟨e1, e2, e3, e4, e5, e6, e7, e8⟩ := hf.same
  have hp := h.ap.pg
  have hz := hf.below.size
  have hFw : F.B <= w.heap.size := by have := h.on.tm.base.2.1; have := h.on.tm.low.1; have := h.on.tm.low.2.2; omega
  refine ⟨rfl, F', flushed disk σ, ⟨e1, e2, e3, e6⟩, ⟨hf.on, ⟨R', q1, q2, q3⟩, hf.ht h.on.tm.ht h.on.tm.base.1, by rw [e1]; exact h.on.tm.base.1, by rw [e1]; omega⟩, h.ver, fun _ _ _ _ hv => h.old hv, h.lowD, by unfold pagesN; omega, free_len h.ap (by have := hd.hn; omega), ?_, hf.blk a.u _ _ h.on.self (by decide) (by decide) (r3.sty h.on.self (by decide)), hf.below, fun α E ty base v l hl h1 h2 h3 => hf.row r3 hl h1 h2 h3, fun g ty cs hB h1 h2 h3 => hf.blk g ty cs hB h1 h2 (r3.sty hB h3)⟩
  exact TxB.of (F := F') (R := R') (by rw [e2]; exact htx) q3
end
end Go.Proofs.YtpfplojkiloldaaGreatDoor
