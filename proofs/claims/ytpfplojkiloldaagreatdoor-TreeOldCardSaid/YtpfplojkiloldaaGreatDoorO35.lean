/- Part of this proof. -/
import Derived.Deep.CutBlock
import Derived.Deep.CutRange
import Derived.Test.YtpfplojkiloldaaGreatDoorO34
set_option maxRecDepth 100000
set_option maxHeartbeats 8000000
namespace Go.Proofs.YtpfplojkiloldaaGreatDoor
open Go.RowKit Go.Shelf Go.Maps
section
variable {F F' : FFile} {n N : Nat} {a : TAd} {used : List Run} {disk : Tp.Disk} {root root' : Int} {σ : Tp.Pst} {ids ids' : List Int} {es es' : List Ent} {tok tok' r : Nat} {w w' : World}
theorem FSt.ap (h : FSt F n a used disk root σ ids es tok r w) : Tp.ApS (max (n : Int) 2) used σ := h.on.tm.mem.ap
theorem flushed_view (hap : Tp.ApS (max (n : Int) 2) used σ) {x : Int} (hu : Tp.Use used σ x) : flushed disk σ x = σ.view disk x := by
 unfold flushed
 by_cases hm : x ∈ σ.mine
 · rw [if_pos hm, Tp.view_mine hm]
 · rw [if_neg hm]
   rcases hu with hu | hu
   · exact absurd hu hm
   · exact (Tp.view_used hap hu).symm
theorem FSt.ver (h : FSt F n a used disk root σ ids es tok r w) : Tp.VerAt (flushed disk σ) root es tok ids := h.rt.ver fun x hx => flushed_view h.ap (h.rt.uses x hx)
theorem FSt.old (h : FSt F n a used disk root σ ids es tok r w) (hv : Tp.VerAt disk root' es' tok' ids') : Tp.VerAt (flushed disk σ) root' es' tok' ids' := hv.congr fun x hx => by
 obtain ⟨y, hy⟩ := hv.some_ x hx
 unfold flushed
 rw [if_neg (h.ap.um x (h.on.tm.on.page x y hy).2.1)]
def LowD (disk : Tp.Disk) (free : List Run) (p : Int) : Prop := ∀ id x, disk id = some x -> id < p /\ ¬ Rp.Mem free id
theorem FSt.lowD (h : FSt F n a used disk root σ ids es tok r w) : LowD (flushed disk σ) σ.free σ.pages := fun id x hx => by
 unfold flushed at hx
 split at hx
 · rename_i hm
   exact ⟨(h.ap.hm id hm).2, fun hf => h.ap.fm id hf hm⟩
 · have hu := (h.on.tm.on.page id x hx).2.1
   exact ⟨(h.ap.hu id hu).2, fun hf => h.ap.fu id hf hu⟩
theorem LowD.nofree {free : List Run} {p : Int} (h : LowD disk free p) : LowD disk [] p := fun id x hx => ⟨(h id x hx).1, fun ⟨a, ha, _⟩ => by cases ha⟩
theorem fst_flush (h : FSt F n a used disk root σ ids es tok r w) (hd : FOn F n disk N) (hN : N + 2000 < 90000) (hk : F.k + 1000 < maxLen) (hml : σ.mine.length <= 1000) :
   Calls Tryz.prog 38 #[.pointer (some ⟨a.t, 0, none⟩)] w fun e w' => e = .returned (.int .i64 0) /\ ∃ F', FlDEnd F n (flushed disk σ) (N + σ.mine.length) r w F' w' :=
 tmd_flush h.on.tm hd hN hk (fun id hid => by
   obtain ⟨y, hy⟩ := h.rt.some_ id (h.mine id hid)
   rw [Tp.view_mine hid] at hy
   exact ⟨y, hy⟩) hml
theorem FlDEnd.lo {α : Type} {E : Enc α} {ty : TypeId} {base : Nat} {v : Value} {l : List α} (h : FlDEnd F n disk N r w F' w') (hl : LO E ty w base v l) (h1 : ty ≠ 110) (h2 : ty ≠ 172) (h3 : ∀ g, v.ownBlock = some g -> g ≠ F.s) : LO E ty w' base v l := by
 rcases hl with ⟨h4, h5 | ⟨g, cap, cur, hv, hb, hh, q⟩⟩
 · exact ⟨h4, .inl h5⟩
 · exact ⟨h4, .inr ⟨g, cap, cur, hv, hb, h.blk g ty _ hh h1 h2 (h3 g (by rw [hv]; rfl)), q⟩⟩
theorem FFile.At.sty {R : Int} (h : F.At w R) {g : Nat} {ty : TypeId} {cs : Array Value} (hB : Blk w g ty cs) (ht : ty ≠ 9) : g ≠ F.s := hB.ne_ h.disk.sure ht
theorem LO.blk_ {α : Type} {E : Enc α} {ty : TypeId} {base : Nat} {v : Value} {l : List α} (hl : LO E ty w base v l) {g : Nat} (hg : v.ownBlock = some g) : ∃ cs, Blk w g ty cs /\ base <= g := by
 rcases hl with ⟨_, ⟨h5, _⟩ | ⟨g', cap, cur, hv, hb, hh, _⟩⟩
 · rw [h5] at hg; cases hg
 · rw [hv] at hg
   have : g' = g := by injection hg
   subst this
   exact ⟨_, hh, hb⟩
theorem FlDEnd.row {α : Type} {E : Enc α} {ty : TypeId} {base : Nat} {v : Value} {l : List α} {R : Int} (h : FlDEnd F n disk N r w F' w') (hA : F.At w R) (hl : LO E ty w base v l) (h1 : ty ≠ 110) (h2 : ty ≠ 172) (h3 : ty ≠ 9) : LO E ty w' base v l :=
 h.lo hl h1 h2 fun g hg => by
   obtain ⟨cs, hB, _⟩ := hl.blk_ hg
   exact hA.sty hB h3
theorem FlDEnd.own {base : Nat} {v : Value} {l : List Run} {R : Int} (h : FlDEnd F n disk N r w F' w') (hA : F.At w R) (hl : Own w base v l) : Own w' base v l := by
 rcases hl with ⟨h4, h5 | ⟨g, cap, cur, hv, hb, hh, q⟩⟩
 · exact ⟨h4, .inl h5⟩
 · exact ⟨h4, .inr ⟨g, cap, cur, hv, hb, h.blk g 120 _ hh (by decide) (by decide) (hA.sty hh (by decide)), q⟩⟩
theorem FlDEnd.txn {R : Int} {t m k : Nat} {free : List Run} {pages : Int} {D : DataW Value} (h : FlDEnd F n disk N r w F' w') (hA : F.At w R) (ht : Txn w t m F.f n free pages k D) (hm : m ≠ F.m) : Txn w' t m F.f n free pages k D := by
 obtain ⟨h1, ⟨v, h2, h3⟩, es, c, h4, h5⟩ := ht
 obtain ⟨R', r1, r2, r3⟩ := h.file
 have hs := r3.fileOf
 obtain ⟨cc, c1, c2⟩ := h.on.c
 rw [c1.ok.size, h.same.2.1] at hs
 exact ⟨hs, ⟨v, h.blk t _ _ h2 (by decide) (by decide) (hA.sty h2 (by decide)), h.own hA h3⟩, es, c, h.map m es c hm h4, h5⟩
theorem FlDEnd.ht (h : FlDEnd F n disk N r w F' w') (hT : HT w) (hB : 0 < F.B) : HT w' := by
 have hb := h.below.mono (show 1 <= F.B from hB)
 refine ⟨Nat.lt_of_lt_of_le hT.1 hb.size, fun i hi => ?_⟩
 rw [<- hT.2 i hi]
 exact hb.cell (p := ⟨0, i, none⟩) (Nat.zero_lt_one)
def TxB (F : FFile) (t n : Nat) (free : List Run) (pages : Int) (b : Nat) (w : World) : Prop :=
 ∃ (w1 : World) (m k : Nat) (D : DataW Value) (cs : Array Value), w1.heap.size <= b /\ Txn w1 t m F.f n free pages k D /\ Blk w1 F.d 110 cs /\ Fr (fun g => g = F.d \/ b <= g) w1 w
theorem TxB.of {R : Int} {t m k : Nat} {free : List Run} {pages : Int} {D : DataW Value} (h : Txn w t m F.f n free pages k D) (hA : F.At w R) : TxB F t n free pages w.heap.size w :=
 ⟨w, m, k, D, _, Nat.le_refl _, h, hA.disk.self, Fr.refl _⟩
theorem fst_new {B t m r : Nat} {P : Int} {l : List Run} (h : TMd F B t m n (Rp.minus [(2, P - 1)] l) disk r (Tp.start l P) w) (hd : F.d < B) (hv : Tp.VerAt disk root es tok ids) (htl : tok <= 200000) (hon : ∀ x y, disk x = some y -> noPage n x = false) (hn : n <= 16384) (hlow : LowD disk l P) :
   Calls Tryz.prog 33 #[.pointer (some ⟨t, 0, none⟩), .int .i64 root] w fun e w' => ∃ a : TAd, e = .returned (.pointer (some ⟨a.u, 0, none⟩)) /\ a.t = t /\ a.m = m /\ FSt F n a (Rp.minus [(2, P - 1)] l) disk root (Tp.start l P) ids es tok r w' /\ w.heap.size <= a.u /\ Below w.heap.size w w' := by
 have M := mach_disk F h.low.1 h.low.2.1 hd n (Rp.minus [(2, P - 1)] l) disk
 refine (ctnew_any M root r (Tp.start l P) w h).mono ?_
 rintro e w' ⟨u, rfl, h1, h2, h3⟩
 have hx : ∀ x ∈ ids, (2 <= x /\ x < P /\ x <= Rp.Most) /\ ¬ Rp.Mem l x := fun x hx => by
   obtain ⟨y, hy⟩ := hv.some_ x hx
   have h4 := hlow x y hy
   have h5 := hon x y hy
   have h6 : ¬ x < 2 /\ ¬ (n : Int) <= x := by simpa [noPage] using h5
   exact ⟨⟨by omega, h4.1, by unfold Rp.Most; omega⟩, h4.2⟩
 exact ⟨⟨B, t, m, F.f, u⟩, rfl, rfl, rfl, ⟨h1, hd, hv.rootAt (fun x hx' => Tp.start_view (hx x hx').1.1 (hx x hx').1.2.1 (hx x hx').2) (fun x hx' => Tp.start_use (hx x hx').1.1 (hx x hx').1.2.1 (hx x hx').1.2.2 (hx x hx').2), fun x hx => absurd hx List.not_mem_nil, htl⟩, h2, h3⟩
end
theorem file_start {B0 d n : Nat} {w : World} (hn : n <= 16384) {f : Nat} (h : FAt w B0 f d 0 (fresh n)) : ∃ F : FFile, F.B = B0 /\ F.f = f /\ F.d = d /\ F.k = 0 /\ F.At w 0 /\ FOn F n noDisk 0 := by
 obtain ⟨s, m, pv, Dm, h1⟩ := h.open_
 exact ⟨⟨B0, f, d, 0, s, m, pv, Dm, fresh n⟩, rfl, rfl, rfl, rfl, h1, hn, ⟨fun _ => none, fresh_c, fun _ _ h => by cases h⟩, ⟨Int.le_refl _, Int.le_refl _⟩, by show ([] : List _).length <= 0; simp⟩
section
variable {F F' : FFile} {n : Nat} {a : TAd} {used : List Run} {disk : Tp.Disk} {root : Int} {es : List Ent} {tok r r' T : Nat} {w0 w w' : World} {z : Int}
structure FReady (F : FFile) (n : Nat) (disk : Tp.Disk) (N r : Nat) (w : World) : Prop where
 on : FOn F n disk N
 file : ∃ R : Int, 0 <= R /\ R + (r : Nat) <= 900000 /\ F.At w R
 ht : HT w
 b0 : 0 < F.B
 bw : F.B <= w.heap.size
theorem FReady.below {N : Nat} (h : FReady F n disk N r w) (hb : Below w.heap.size w w') : FReady F n disk N r w' := by
 obtain ⟨h1, ⟨R, r1, r2, r3⟩, h3, h4, h5⟩ := h
 exact ⟨h1, ⟨R, r1, r2, r3.fr (S := fun _ => False) (.of_below hb) (fun _ _ a => a)⟩, h3.below hb (by have := h3.1; omega), h4, Nat.le_trans h5 hb.size⟩
theorem FReady.less {N : Nat} (h : FReady F n disk N r w) (hr : r' <= r) : FReady F n disk N r' w := by
 obtain ⟨h1, ⟨R, r1, r2, r3⟩, h3, h4, h5⟩ := h
 exact ⟨h1, ⟨R, r1, by omega, r3⟩, h3, h4, h5⟩
theorem FReady.of {B t m N : Nat} {σ : Tp.Pst} (h : TMd F B t m n used disk r σ w) (ho : FOn F n disk N) : FReady F n disk N r w := by
 obtain ⟨R, r1, r2, r3⟩ := h.file
 exact ⟨ho, ⟨R, r1, r2, r3⟩, h.ht, h.base.1, by have := h.base.2.1; have := h.low.1; have := h.low.2.2; omega⟩
theorem FReady.dlt {N : Nat} (h : FReady F n disk N r w) : F.B <= F.d /\ F.d < w.heap.size := by
 obtain ⟨R, r1, r2, r3⟩ := h.file
 exact ⟨r3.disk.le.1, r3.disk.self.lt⟩
theorem fr_begin {N : Nat} (h : FReady F n disk N r w) (hN : N < 1000000) (A : Option Addr) (c : Nat) (l : List Run) (p P : Int) (hP : pagesN p n = P) (hr : RS w w.heap.size A l) (hl : l.length <= 50000) (hlow : LowD disk l P) :
   Calls Tryz.prog 34 #[.pointer (some ⟨F.f, 0, none⟩), .slice A l.length c, .int .i64 p] w fun e w' => ∃ t m, e = .returned (.pointer (some ⟨t, 0, none⟩)) /\ TMd F w'.heap.size t m n (Rp.minus [(2, P - 1)] l) disk r (Tp.start l P) w' /\ (w.heap.size <= t /\ w.heap.size <= m /\ F.d < w'.heap.size) /\ Below w.heap.size w w' := by
 obtain ⟨h1, ⟨R, r1, r2, r3⟩, h3, h4, h5⟩ := h
 subst hP
 exact tmd_start r3 r1 r r2 h1 hN h3 h4 h5 A c l p hr hl hlow
structure FlD2 (F : FFile) (n : Nat) (a : TAd) (disk : Tp.Disk) (root : Int) (σ : Tp.Pst) (ids : List Int) (es : List Ent) (tok N r : Nat) (w : World) (F' : FFile) (disk' : Tp.Disk) (w' : World) : Prop where
 same : F'.B = F.B /\ F'.f = F.f /\ F'.d = F.d /\ F'.k = 0
 ready : FReady F' n disk' (N + σ.mine.length) r w'
 ver : Tp.VerAt disk' root es tok ids
 old : ∀ (root' : Int) (es' : List Ent) (tok' : Nat) (ids' : List Int), Tp.VerAt disk root' es' tok' ids' -> Tp.VerAt disk' root' es' tok' ids'
 low : LowD disk' σ.free σ.pages
 pg : pagesN σ.pages n = σ.pages
 fl : σ.free.length <= 50000
 tx : TxB F' a.t n σ.free σ.pages w'.heap.size w'
 self : Blk w' a.u 84 (TreeV a.t root 0)
 below : Below F.B w w'
 row : ∀ (α : Type) (E : Enc α) (ty : TypeId) (base : Nat) (v : Value) (l : List α), LO E ty w base v l -> ty ≠ 110 -> ty ≠ 172 -> ty ≠ 9 -> LO E ty w' base v l
 blk : ∀ (g : Nat) (ty : TypeId) (cs : Array Value), Blk w g ty cs -> ty ≠ 110 -> ty ≠ 172 -> ty ≠ 9 -> Blk w' g ty cs
theorem free_len {room p : Int} {fr used : List Run} {mine : List Int} (h : Rp.Ap room fr used mine p) (hp : room <= 16384) : fr.length <= 50000 := by
 have h0 := h.pg
 have h1 := canon_len fr 0 p h.cf (fun x hx => (h.hf x hx).2)
 omega
theorem fst_flush2 {ids : List Int} {σ : Tp.Pst} {N : Nat} (h : FSt F n a used disk root σ ids es tok r w) (hd : FOn F n disk N) (hN : N + 2000 < 90000) (hk : F.k + 1000 < maxLen) (hml : σ.mine.length <= 1000) :
   Calls Tryz.prog 38 #[.pointer (some ⟨a.t, 0, none⟩)] w fun e w' => e = .returned (.int .i64 0) /\ ∃ F' disk', FlD2 F n a disk root σ ids es tok N r w F' disk' w' := by
 refine (fst_flush h hd hN hk hml).mono ?_
 rintro e w' ⟨rfl, F', hf⟩
 obtain ⟨R, r1, r2, r3⟩ := h.on.tm.file
 have hmm : a.m ≠ F.m := by have := (h.on.tm.sep F.m (.inr (.inr (.inr (.inl rfl))))).2; omega
 obtain ⟨D, t1, t2⟩ := h.on.tm.mem.txn
 have htx := hf.txn r3 t1 hmm
 obtain ⟨R', q1, q2, q3⟩ := hf.file
 obtain ⟨e1, e2, e3, e4, e5, e6, e7, e8⟩ := hf.same
 have hp := h.ap.pg
 have hz := hf.below.size
 have hFw : F.B <= w.heap.size := by have := h.on.tm.base.2.1; have := h.on.tm.low.1; have := h.on.tm.low.2.2; omega
 refine ⟨rfl, F', flushed disk σ, ⟨e1, e2, e3, e6⟩, ⟨hf.on, ⟨R', q1, q2, q3⟩, hf.ht h.on.tm.ht h.on.tm.base.1, by rw [e1]; exact h.on.tm.base.1, by rw [e1]; omega⟩, h.ver, fun _ _ _ _ hv => h.old hv, h.lowD, by unfold pagesN; omega, free_len h.ap (by have := hd.hn; omega), ?_, hf.blk a.u _ _ h.on.self (by decide) (by decide) (r3.sty h.on.self (by decide)), hf.below, fun α E ty base v l hl h1 h2 h3 => hf.row r3 hl h1 h2 h3, fun g ty cs hB h1 h2 h3 => hf.blk g ty cs hB h1 h2 (r3.sty hB h3)⟩
 exact TxB.of (F := F') (R := R') (by rw [e2]; exact htx) q3
end
end Go.Proofs.YtpfplojkiloldaaGreatDoor
namespace Tp
open Nd En
def lfAt (σ : Pst) (x : Int) : Bool := match σ.nd x with
 | some n => n.leaf
 | none => false
def FL (σ : Pst) : Nat := σ.mine.countP (lfAt σ)
def oneB (b : Bool) : Nat := if b then 1 else 0
theorem countP_put : ∀ (l : List Int) (p q : Int -> Bool) (id : Int), l.Nodup -> (∀ x, x ≠ id -> p x = q x) -> l.countP p <= l.countP q + oneB (p id)
 | [], _, _, _, _, _ => by simp
 | y :: l, p, q, id, hn, h => by
   obtain ⟨h1, h2⟩ := List.nodup_cons.1 hn
   rw [List.countP_cons, List.countP_cons]
   by_cases e : y = id
   · subst e
     have : l.countP p = l.countP q := List.countP_congr fun x hx => by rw [h x (fun e => h1 (e ▸ hx))]
     unfold oneB
     rw [this]
     split <;> split <;> omega
   · have := countP_put l p q id h2 h
     rw [h y e]
     omega
section
variable {room room' : Int} {disk : Disk} {used : List Run} {σ σ1 σ2 σ' : Pst}
theorem put_L (hn : σ.mine.Nodup) (id : Int) (n : Node) : FL (σ.put id n) <= FL σ + oneB n.leaf := by
 have h := countP_put σ.mine (lfAt (σ.put id n)) (lfAt σ) id hn (fun x hx => by unfold lfAt Pst.put; simp only [if_neg hx])
 have e : lfAt (σ.put id n) id = n.leaf := by unfold lfAt Pst.put; simp
 rw [e] at h
 exact h
theorem save_L (h : ApS room used σ) {id pg : Int} {n : Node} (hs : pSave room σ id n = (.ok pg, σ1)) : ApS room used σ1 /\ FL σ1 <= FL σ + oneB n.leaf := by
 refine ⟨(save_ok (disk := fun _ => none) h hs).1.ap, ?_⟩
 unfold pSave at hs
 cases hf : fits n with
 | false => rw [hf] at hs; simp at hs
 | true =>
   rw [hf] at hs
   simp only [Bool.true_eq_false, if_false] at hs
   by_cases hid : id ∈ σ.mine
   · rw [if_pos hid] at hs
     simp only [Prod.mk.injEq, Except.ok.injEq] at hs
     obtain ⟨rfl, rfl⟩ := hs
     exact put_L h.nd _ _
   · rw [if_neg hid] at hs
     cases ha : pAlloc room σ with
     | none => rw [ha] at hs; simp at hs
     | some o =>
       obtain ⟨id', σ''⟩ := o
       rw [ha] at hs
       simp only [Prod.mk.injEq, Except.ok.injEq] at hs
       obtain ⟨rfl, rfl⟩ := hs
       obtain ⟨h1, h2, h3⟩ := alloc_some (disk := fun _ => none) h ha
       have hnd : ∀ x, x ≠ id' -> σ''.nd x = σ.nd x := fun x hx => by
         unfold pAlloc at ha
         cases hv : allocV σ.free σ.pages room with
         | none => rw [hv] at ha; cases ha
         | some p =>
           obtain ⟨a, b, c⟩ := p
           rw [hv] at ha
           simp only [Option.some.injEq, Prod.mk.injEq] at ha
           obtain ⟨rfl, rfl⟩ := ha
           simp only [if_neg hx]
       have hno : id' ∉ σ.mine := fun hm => h3 (.inl hm)
       unfold FL
       show (σ''.mine).countP _ <= _
       rw [h2, List.countP_append]
       have e1 : σ.mine.countP (lfAt (σ''.put id' n)) = σ.mine.countP (lfAt σ) := List.countP_congr fun x hx => by
         have hx' : x ≠ id' := fun e => hno (e ▸ hx)
         unfold lfAt Pst.put
         simp only [if_neg hx', hnd x hx']
       rw [e1]
       have e2 : lfAt (σ''.put id' n) id' = n.leaf := by unfold lfAt Pst.put; simp
       rw [List.countP_singleton, e2]
       unfold oneB
       omega
theorem drop_L (h : ApS room used σ) (id : Int) : ApS room used (pDrop σ id) /\ FL (pDrop σ id) <= FL σ :=
 ⟨(drop_step (disk := fun _ => none) h id).1.ap, List.Sublist.countP_le (p := lfAt σ) List.filter_sublist⟩
theorem cut_leaf {n a b : Node} {k : Str} (h : cut n = some (a, k, b)) : a.leaf = n.leaf /\ b.leaf = n.leaf := by
 unfold cut at h
 split at h
 · unfold split at h
   split at h
   · cases h
   · split at h
     · rename_i hl
       split at h
       · cases h
       · cases h
         exact ⟨hl.symm, hl.symm⟩
     · rename_i hl
       have hl : n.leaf = false := by simpa using hl
       split at h
       · cases h
       · cases h
         exact ⟨hl.symm, hl.symm⟩
 · cases h
theorem store_L : ∀ (f : Nat) (σ : Pst) (id : Int) (n : Node) (p : Part) (σ' : Pst), ApS room used σ -> pStore room f σ id n = (.ok p, σ') -> ApS room used σ' /\ FL σ' <= FL σ + (if n.leaf then p.1.length else 0)
 | 0, σ, id, n, p, σ', _, h => by unfold pStore at h; cases h
 | f + 1, σ, id, n, p, σ', hap, h => by
   unfold pStore at h
   split at h
   · simp only [Prod.mk.injEq, Except.ok.injEq] at h
     obtain ⟨rfl, rfl⟩ := h
     obtain ⟨h1, h2⟩ := drop_L hap id
     exact ⟨h1, Nat.le_trans h2 (Nat.le_add_right _ _)⟩
   · cases hc : cut n with
     | some o =>
       obtain ⟨a, key, b⟩ := o
       rw [hc] at h
       simp only at h
       obtain ⟨l1, l2⟩ := cut_leaf hc
       cases h1 : pStore room f σ id a with
       | mk r1 s1 =>
         rw [h1] at h
         cases r1 with
         | error e => simp at h
         | ok one =>
           simp only at h
           cases h2 : pStore room f s1 0 b with
           | mk r2 s2 =>
             rw [h2] at h
             cases r2 with
             | error e => simp at h
             | ok two =>
               simp only [Prod.mk.injEq, Except.ok.injEq] at h
               obtain ⟨rfl, rfl⟩ := h
               obtain ⟨g1, g2⟩ := store_L f σ id a one s1 hap h1
               obtain ⟨g3, g4⟩ := store_L f s1 0 b two s2 g1 h2
               rw [l1] at g2
               rw [l2] at g4
               refine ⟨g3, ?_⟩
               cases hl : n.leaf with
               | true =>
                 rw [hl] at g2 g4
                 simp only [if_true, List.length_append] at g2 g4 ⊢
                 omega
               | false =>
                 rw [hl] at g2 g4
                 simp only [Bool.false_eq_true, if_false] at g2 g4 ⊢
                 omega
     | none =>
       rw [hc] at h
       simp only at h
       cases h1 : pSave room σ id n with
       | mk r1 s1 =>
         rw [h1] at h
         cases r1 with
         | error e => simp at h
         | ok pg =>
           simp only [Prod.mk.injEq, Except.ok.injEq] at h
           obtain ⟨rfl, rfl⟩ := h
           obtain ⟨g1, g2⟩ := save_L hap h1
           refine ⟨g1, ?_⟩
           unfold oneB at g2
           exact g2
theorem swap_leaf {n : Node} (h : n.leaf = false) (a b : Nat) (c : List Int) (d : List Str) : (swap n a b c d).leaf = false := by
 unfold swap
 split
 · exact h
 · rfl
theorem fill_L {n n' : Node} {i d : Nat} (hap : ApS room used σ) (h : pFill room disk σ n i d = (.ok n', σ')) (κ : Bool) (hκ : ∀ kid, σ.view disk (n.kids.getD i 0) = some kid -> kid.leaf = κ) (h2 : 1 < n.kids.length) (hl : n.leaf = false) : ApS room used σ' /\ FL σ' <= FL σ + oneB κ /\ n'.leaf = false := by
 unfold pFill at h
 split at h
 · cases h
 · cases hk : σ.view disk (n.kids.getD i 0) with
   | none => rw [hk] at h; cases h
   | some kid =>
     rw [hk] at h
     simp only at h
     split at h
     · simp only [Prod.mk.injEq, Except.ok.injEq] at h
       obtain ⟨rfl, rfl⟩ := h
       exact ⟨hap, Nat.le_add_right _ _, hl⟩
     · cases ha : σ.view disk (n.kids.getD (sib n i) 0) with
       | none => rw [ha] at h; cases h
       | some a =>
         rw [ha] at h
         simp only at h
         cases hb : σ.view disk (n.kids.getD (sib n i + 1) 0) with
         | none => rw [hb] at h; cases h
         | some b =>
           rw [hb] at h
           simp only at h
           split at h
           · simp only [Prod.mk.injEq, Except.ok.injEq] at h
             obtain ⟨rfl, rfl⟩ := h
             exact ⟨hap, Nat.le_add_right _ _, hl⟩
           · rename_i hno
             have hab : a.leaf = b.leaf := by
               cases e : (a.leaf != b.leaf) with
               | true => exact absurd (.inl e) hno
               | false => simpa using e
             have hκ2 : a.leaf = κ := by
               unfold sib at ha hb
               split at ha
               · rename_i hs
                 rw [if_pos hs] at hb
                 have e : i - 1 + 1 = i := by omega
                 rw [e] at hb
                 rw [hab]
                 exact hκ b hb
               · exact hκ a ha
             have hj : (join a (n.keys.getD (sib n i) ⟨#[]⟩) b).leaf = κ := by
               unfold join
               rw [hab]
               simp only [bne_self_eq_false, Bool.false_eq_true, if_false]
               cases e : b.leaf with
               | true => simp only [if_true]; rw [<- hκ2, hab, e]
               | false => simp only [Bool.false_eq_true, if_false]; rw [<- hκ2, hab, e]
             cases h1 : pSave room σ (n.kids.getD (sib n i) 0) (join a (n.keys.getD (sib n i) ⟨#[]⟩) b) with
             | mk r1 s1 =>
               rw [h1] at h
               cases r1 with
               | error e => simp at h
               | ok pg =>
                 simp only [Prod.mk.injEq, Except.ok.injEq] at h
                 obtain ⟨rfl, rfl⟩ := h
                 obtain ⟨g1, g2⟩ := save_L hap h1
                 obtain ⟨g3, g4⟩ := drop_L g1 (n.kids.getD (sib n i + 1) 0)
                 rw [hj] at g2
                 exact ⟨g3, by omega, swap_leaf hl _ _ _ _⟩
theorem shrink_L : ∀ (f : Nat) (σ : Pst) (id r : Int) (σ' : Pst), ApS room used σ -> pShrink disk f σ id = (.ok r, σ') -> ApS room used σ' /\ FL σ' <= FL σ
 | 0, σ, id, r, σ', _, h => by unfold pShrink at h; cases h
 | f + 1, σ, id, r, σ', hap, h => by
   unfold pShrink at h
   cases hv : σ.view disk id with
   | none => rw [hv] at h; cases h
   | some n =>
     rw [hv] at h
     simp only at h
     split at h
     · simp only [Prod.mk.injEq, Except.ok.injEq] at h
       obtain ⟨rfl, rfl⟩ := h
       exact ⟨hap, Nat.le_refl _⟩
     · obtain ⟨g1, g2⟩ := drop_L hap id
       obtain ⟨g3, g4⟩ := shrink_L f _ _ r σ' g1 h
       exact ⟨g3, by omega⟩
theorem grow_L : ∀ (f : Nat) (σ : Pst) (p : Part) (r : Int) (σ' : Pst), ApS room used σ -> pGrow room disk f σ p = (.ok r, σ') -> ApS room used σ' /\ FL σ' <= FL σ
 | 0, σ, p, r, σ', _, h => by unfold pGrow at h; cases h
 | f + 1, σ, p, r, σ', hap, h => by
   unfold pGrow at h
   split at h
   · cases h1 : pStore room (p.1.length + 1) σ 0 (mkInner p.1 p.2) with
     | mk r1 s1 =>
       rw [h1] at h
       cases r1 with
       | error e => simp at h
       | ok q =>
         simp only at h
         obtain ⟨g1, g2⟩ := store_L _ σ 0 _ q s1 hap h1
         obtain ⟨g3, g4⟩ := grow_L f s1 q r σ' g1 h
         refine ⟨g3, ?_⟩
         simp only [mkInner, Bool.false_eq_true, if_false] at g2
         omega
   · split at h
     · simp only [Prod.mk.injEq, Except.ok.injEq] at h
       obtain ⟨rfl, rfl⟩ := h
       exact ⟨hap, Nat.le_refl _⟩
     · exact shrink_L 24 σ _ r σ' hap h
theorem parts_two {v : Int -> Option Node} {h : Nat} {lo hi : Option Str} {p : Part} {ids : List Int} {es : List En.Ent} {tok : Nat} {big : Prop} (q : PartsAt v h lo hi p ids es tok big) : p.1.length <= 2 /\ (p.1.length = 1 -> p.2.length = 0 /\ ∃ pg n, p.1 = [pg] /\ v pg = some n /\ n.leaf = decide (h = 0)) := by
 rcases q with ⟨rfl, _, _⟩ | ⟨subs, q1, _, _, _, q5, _, q7, _⟩
 · exact ⟨by simp, fun h => by simp at h⟩
 · rw [q1, List.length_map]
   refine ⟨q7, fun h1 => ?_⟩
   obtain ⟨t, rfl⟩ : ∃ t, subs = [t] := List.length_eq_one_iff.1 h1
   have hl := chain_len q5
   have hk : p.2 = [] := List.eq_nil_of_length_eq_zero (by simpa using hl)
   rw [hk] at q5
   obtain ⟨n, n1, _, n3⟩ := tr_node (chain_one.1 q5)
   exact ⟨by rw [hk]; rfl, t.id, n, rfl, n1, n3⟩
theorem change_L {g : List En.Ent -> List En.Ent} {key : Str} (GO : GOp g key) (δ : Nat) : ∀ (h f : Nat) (σ : Pst) (lo hi : Option Str) (s : Sub) (p : Part) (σ' : Pst), h < f -> f <= 24 -> ApS room used σ -> Tr (σ.view disk) h lo hi s -> s.ids.Nodup -> (∀ x ∈ s.ids, Use used σ x) -> gtLo lo key -> ltHi hi key -> (g s.es).length <= s.es.length + δ ->
   pChange room disk g key f σ s.id = (.ok p, σ') -> ApS room used σ' /\ FL σ' <= FL σ + (if h = 0 then p.1.length else 2)
 | 0, f + 1, σ, lo, hi, s, p, σ', _, _, hap, ht, _, _, _, _, _, hc => by
   unfold pChange at hc
   rw [ht.1] at hc
   simp only at hc
   rw [if_pos (show (mkLeaf s.es).leaf = true from rfl)] at hc
   have := store_L _ σ s.id _ p σ' hap hc
   exact this
 | h + 1, f + 1, σ, lo, hi, s, p, σ', hf, hf24, hap, ht, hnd, huse, hk1, hk2, hd, hc => by
   have G := tr_good (σ.view disk) h
   have G1 := tr_good (σ.view disk) (h + 1)
   have hrs := G1.srt ht
   obtain ⟨subs, keys, a1, a2, a3, a4, a5, a6, a7⟩ := ht
   have hlen := chain_len a7
   have hci := child_le keys key
   obtain ⟨i, hi0⟩ : ∃ i, i = child keys key := ⟨_, rfl⟩
   have hi' : i < subs.length := by omega
   unfold pChange at hc
   rw [a1] at hc
   simp only at hc
   rw [if_neg (show ¬ (mkInner (subs.map (·.id)) keys).leaf = true by simp [mkInner])] at hc
   rw [show (mkInner (subs.map (·.id)) keys).keys = keys from rfl, <- hi0, show (mkInner (subs.map (·.id)) keys).kids = subs.map (·.id) from rfl, getD_kid hi'] at hc
   obtain ⟨l, hh, ti, c1, c2, hrep, hloc, hcb⟩ := chain_at G a7 hi'
   obtain ⟨kl, kh⟩ := hcb key hi0.symm hk1 hk2
   rw [a3, List.nodup_cons] at hnd
   obtain ⟨hidn, hnd⟩ := hnd
   have hsp : subs = subs.take i ++ (subs[i] :: subs.drop (i + 1)) := by rw [<- List.drop_eq_getElem_cons, List.take_append_drop]
   have hidl : ids_ subs = ids_ (subs.take i) ++ ((subs[i]).ids ++ ids_ (subs.drop (i + 1))) := by
     conv => lhs; rw [hsp]
     rw [ids_append, ids_cons]
   have hesl : es_ subs = es_ (subs.take i) ++ ((subs[i]).es ++ es_ (subs.drop (i + 1))) := by
     conv => lhs; rw [hsp]
     rw [es_append, es_cons]
   have hi6 := a6 _ (List.getElem_mem hi')
   have hnd2 := hnd
   rw [hidl, List.nodup_append, List.nodup_append] at hnd2
   obtain ⟨nd1, ⟨nd2, nd3, nd4⟩, nd5⟩ := hnd2
   have hmi : ∀ x ∈ (subs[i]).ids, x ∈ ids_ subs := fun x hx => mem_ids (List.getElem_mem hi') hx
   have hui : ∀ x ∈ ids_ subs, Use used σ x := fun x hx => huse x (by rw [a3]; exact List.mem_cons_of_mem _ hx)
   have hge : g s.es = es_ (subs.take i) ++ (g (subs[i]).es ++ es_ (subs.drop (i + 1))) := by
     rw [a4, hesl]
     refine GO.loc _ _ _ (by rw [<- hesl, <- a4]; exact hrs) (hloc key kl kh).1 (hloc key kl kh).2
   have hd2 : (g (subs[i]).es).length <= (subs[i]).es.length + δ := by
     have e1 := hd
     rw [hge, a4, hesl] at e1
     simp only [List.length_append] at e1
     omega
   have ok := change_ok GO δ h f σ l hh subs[i] True (by omega) (by omega) hap ti nd2 (fun x hx => hui x (hmi x hx)) kl kh (fun _ => hi6) hd2
   have ih := fun p1 s1 => change_L GO δ h f σ l hh subs[i] p1 s1 (by omega) (by omega) hap ti nd2 (fun x hx => hui x (hmi x hx)) kl kh hd2
   cases h1 : pChange room disk g key f σ (subs[i]).id with
   | mk r1 s1 =>
     rw [h1] at hc ok
     cases r1 with
     | error e => simp at hc
     | ok p1 =>
       simp only at hc
       obtain ⟨g1, g2⟩ := ih p1 s1 h1
       have hq : p1.1.length <= 2 /\ (p1.1.length = 1 -> p1.2.length = 0 /\ ∃ pg n, p1.1 = [pg] /\ s1.view disk pg = some n /\ n.leaf = decide (h = 0)) := by
         rcases ok with ⟨p', ids', e1, _, _, _, q⟩ | ⟨e1, _, _⟩
         · simp only [Except.ok.injEq] at e1
           subst e1
           exact parts_two q
         · simp at e1
       obtain ⟨q1, q2⟩ := hq
       have hkl1 : (mkInner (subs.map (·.id)) keys).kids.length = subs.length := List.length_map _
       have hsl : (swap (mkInner (subs.map (·.id)) keys) i (i + 1) p1.1 p1.2).leaf = false := swap_leaf rfl _ _ _ _
       have hfill : ∀ n2 s2, pFillIf room disk p1 s1 (swap (mkInner (subs.map (·.id)) keys) i (i + 1) p1.1 p1.2) i (24 - f) = (.ok n2, s2) -> ApS room used s2 /\ FL s2 <= FL σ + 2 /\ n2.leaf = false := fun n2 s2 hfi => by
         unfold pFillIf at hfi
         split at hfi
         · rename_i hcnd
           obtain ⟨z1, pg, kd, z2, z3, z4⟩ := q2 hcnd.1
           have hsw : (swap (mkInner (subs.map (·.id)) keys) i (i + 1) p1.1 p1.2).kids.getD i 0 = pg := by
             unfold swap
             rw [if_neg (by rw [hkl1, z1, z2]; simp [mkInner]; omega)]
             show ((subs.map (·.id)).take i ++ p1.1 ++ (subs.map (·.id)).drop (i + 1)).getD i 0 = pg
             rw [z2]
             have hti : ((subs.map (·.id)).take i).length = i := by rw [List.length_take, List.length_map]; omega
             rw [List.getD_eq_getElem?_getD, List.append_assoc, List.getElem?_append_right (by omega), hti, Nat.sub_self]
             rfl
           obtain ⟨b1, b2, b3⟩ := fill_L g1 hfi (decide (h = 0)) (fun kid hk => by
             rw [hsw, z3] at hk
             injection hk with hk
             rw [<- hk]; exact z4) hcnd.2 hsl
           refine ⟨b1, ?_, b3⟩
           by_cases h0 : h = 0
           · rw [if_pos h0, hcnd.1] at g2
             have : oneB (decide (h = 0)) <= 1 := by unfold oneB; split <;> omega
             omega
           · rw [if_neg h0] at g2
             have : oneB (decide (h = 0)) = 0 := by unfold oneB; rw [decide_eq_false h0]; rfl
             omega
         · simp only [Prod.mk.injEq, Except.ok.injEq] at hfi
           obtain ⟨rfl, rfl⟩ := hfi
           refine ⟨g1, ?_, hsl⟩
           by_cases h0 : h = 0
           · rw [if_pos h0] at g2; omega
           · rw [if_neg h0] at g2; omega
       cases h2 : pFillIf room disk p1 s1 (swap (mkInner (subs.map (·.id)) keys) i (i + 1) p1.1 p1.2) i (24 - f) with
       | mk r2 s2 =>
         rw [h2] at hc
         cases r2 with
         | error e => simp at hc
         | ok n2 =>
           simp only at hc
           obtain ⟨b1, b2, b3⟩ := hfill n2 s2 h2
           obtain ⟨d1, d2⟩ := store_L _ s2 s.id n2 p σ' b1 hc
           rw [b3] at d2
           simp only [Bool.false_eq_true, if_false] at d2
           exact ⟨d1, by rw [if_neg (by omega)]; omega⟩
theorem update_L {g : List En.Ent -> List En.Ent} {key : Str} (GO : GOp g key) (hap : ApS room used σ) {root r : Int} {es : List En.Ent} {tok : Nat} {ids : List Int} (hr : RootAt disk used σ root es tok ids) (ht : tok <= 1000000) (δ : Nat) (hd : (g es).length <= es.length + δ) (hu : pUpdate room disk g key σ root = (.ok r, σ')) : FL σ' <= FL σ + 2 := by
 unfold pUpdate at hu
 cases h1 : pFirst room disk g key σ root with
 | mk r1 s1 =>
   rw [h1] at hu
   cases r1 with
   | error e => simp at hu
   | ok p =>
     simp only at hu
     have hs : ApS room used s1 /\ FL s1 <= FL σ + 2 := by
       unfold pFirst at h1
       rcases hr with ⟨rfl, rfl, rfl⟩ | ⟨h, s, rfl, rfl, rfl, q4, q5, q6, q7, q8⟩
       · rw [if_pos rfl] at h1
         obtain ⟨g1, g2⟩ := store_L _ σ 0 _ p s1 hap h1
         have hst := store_leaf (disk := disk) hap 0 (l := g []) (lo := none) (hi := none) (tok := tok + δ) (big := False) (GO.right _ rfl) (fun x _ => ⟨(fun a h => by cases h), (fun a h => by cases h)⟩) (by have := GO.size []; simp [esize] at this ⊢; omega) (by simp at hd; omega)
         rw [h1] at hst
         have hp : p.1.length <= 2 := by
           rcases hst with ⟨p', ids', e1, _, _, _, q⟩ | ⟨e1, _, _⟩
           · simp only [Except.ok.injEq] at e1
             subst e1
             exact (parts_two q).1
           · simp at e1
         rw [if_pos (show (mkLeaf (g [])).leaf = true from rfl)] at g2
         exact ⟨g1, by omega⟩
       · have h8 := low_of q8 (by omega)
         have hz : s.id ≠ 0 := fun e => by
           have := use_range hap (q7 s.id (tr_id q5))
           omega
         rw [if_neg hz] at h1
         obtain ⟨g1, g2⟩ := change_L GO δ h 24 σ none none s p s1 (by omega) (by omega) hap q5 q6 q7 (fun a h => by cases h) (fun a h => by cases h) hd h1
         refine ⟨g1, ?_⟩
         by_cases h0 : h = 0
         · have ok := change_ok GO δ h 24 σ none none s False (by omega) (by omega) hap q5 q6 q7 (fun a h => by cases h) (fun a h => by cases h) (fun h => h.elim) hd
           rw [h1] at ok
           have hp : p.1.length <= 2 := by
             rcases ok with ⟨p', ids', e1, _, _, _, q⟩ | ⟨e1, _, _⟩
             · simp only [Except.ok.injEq] at e1
               subst e1
               exact (parts_two q).1
             · simp at e1
           rw [if_pos h0] at g2
           omega
         · rw [if_neg h0] at g2; omega
     obtain ⟨g1, g2⟩ := hs
     obtain ⟨g3, g4⟩ := grow_L _ s1 p r σ' g1 hu
     omega
end
section
variable {room room' : Int} {disk : Disk} {used : List Run} {σ σ1 σ2 σ' : Pst}
theorem alloc_up (hr : room' <= room) {x : Int × Pst} (h : pAlloc room' σ = some x) : pAlloc room σ = some x := by
 unfold pAlloc allocV at h ⊢
 cases hl : Rp.least σ.free with
 | some id => rw [hl] at h; exact h
 | none =>
   rw [hl] at h
   simp only at h ⊢
   by_cases hp : room' <= σ.pages
   · rw [if_pos hp] at h; cases h
   · rw [if_neg hp] at h
     rw [if_neg (by omega)]
     exact h
theorem save_up (hr : room' <= room) {id pg : Int} {n : Node} (h : pSave room' σ id n = (.ok pg, σ1)) : pSave room σ id n = (.ok pg, σ1) := by
 unfold pSave at h ⊢
 split
 · rename_i hf
   rw [if_pos hf] at h; simp at h
 · rename_i hf
   rw [if_neg hf] at h
   split
   · rename_i hm
     rw [if_pos hm] at h; exact h
   · rename_i hm
     rw [if_neg hm] at h
     cases ha : pAlloc room' σ with
     | none => rw [ha] at h; simp at h
     | some x => rw [ha] at h; rw [alloc_up hr ha]; exact h
theorem store_up (hr : room' <= room) : ∀ (f : Nat) (σ : Pst) (id : Int) (n : Node) (p : Part) (σ' : Pst), pStore room' f σ id n = (.ok p, σ') -> pStore room f σ id n = (.ok p, σ')
 | 0, _, _, _, _, _, h => by unfold pStore at h; cases h
 | f + 1, σ, id, n, p, σ', h => by
   unfold pStore at h ⊢
   split
   · rename_i hn
     rw [if_pos hn] at h; exact h
   · rename_i hn
     rw [if_neg hn] at h
     cases hc : cut n with
     | some o =>
       obtain ⟨a, key, b⟩ := o
       rw [hc] at h
       simp only at h ⊢
       cases h1 : pStore room' f σ id a with
       | mk r1 s1 =>
         rw [h1] at h
         cases r1 with
         | error e => simp at h
         | ok one =>
           simp only at h
           rw [store_up hr f σ id a one s1 h1]
           simp only
           cases h2 : pStore room' f s1 0 b with
           | mk r2 s2 =>
             rw [h2] at h
             cases r2 with
             | error e => simp at h
             | ok two =>
               rw [store_up hr f s1 0 b two s2 h2]
               exact h
     | none =>
       rw [hc] at h
       simp only at h ⊢
       cases h1 : pSave room' σ id n with
       | mk r1 s1 =>
         rw [h1] at h
         cases r1 with
         | error e => simp at h
         | ok pg => rw [save_up hr h1]; exact h
theorem fill_up (hr : room' <= room) {n n' : Node} {i d : Nat} (h : pFill room' disk σ n i d = (.ok n', σ')) : pFill room disk σ n i d = (.ok n', σ') := by
 unfold pFill at h ⊢
 split
 · rename_i hd
   rw [if_pos hd] at h; cases h
 · rename_i hd
   rw [if_neg hd] at h
   cases hk : σ.view disk (n.kids.getD i 0) with
   | none => rw [hk] at h; cases h
   | some kid =>
     rw [hk] at h
     simp only at h ⊢
     split
     · rename_i hz
       rw [if_pos hz] at h; exact h
     · rename_i hz
       rw [if_neg hz] at h
       cases ha : σ.view disk (n.kids.getD (sib n i) 0) with
       | none => rw [ha] at h; cases h
       | some a =>
         rw [ha] at h
         simp only at h ⊢
         cases hb : σ.view disk (n.kids.getD (sib n i + 1) 0) with
         | none => rw [hb] at h; cases h
         | some b =>
           rw [hb] at h
           simp only at h ⊢
           split
           · rename_i hq
             rw [if_pos hq] at h; exact h
           · rename_i hq
             rw [if_neg hq] at h
             cases h1 : pSave room' σ (n.kids.getD (sib n i) 0) (join a (n.keys.getD (sib n i) ⟨#[]⟩) b) with
             | mk r1 s1 =>
               rw [h1] at h
               cases r1 with
               | error e => simp at h
               | ok pg => rw [save_up hr h1]; exact h
theorem fillIf_up (hr : room' <= room) {p : Part} {n n' : Node} {i d : Nat} (h : pFillIf room' disk p σ n i d = (.ok n', σ')) : pFillIf room disk p σ n i d = (.ok n', σ') := by
 unfold pFillIf at h ⊢
 split
 · rename_i hc
   rw [if_pos hc] at h; exact fill_up hr h
 · rename_i hc
   rw [if_neg hc] at h; exact h
theorem change_up (hr : room' <= room) {g : List En.Ent -> List En.Ent} {key : Str} : ∀ (f : Nat) (σ : Pst) (id : Int) (p : Part) (σ' : Pst), pChange room' disk g key f σ id = (.ok p, σ') -> pChange room disk g key f σ id = (.ok p, σ')
 | 0, _, _, _, _, h => by unfold pChange at h; cases h
 | f + 1, σ, id, p, σ', h => by
   unfold pChange at h ⊢
   cases hv : σ.view disk id with
   | none => rw [hv] at h; cases h
   | some n =>
     rw [hv] at h
     simp only at h ⊢
     split
     · rename_i hl
       rw [if_pos hl] at h; exact store_up hr _ _ _ _ _ _ h
     · rename_i hl
       rw [if_neg hl] at h
       cases h1 : pChange room' disk g key f σ (n.kids.getD (child n.keys key) 0) with
       | mk r1 s1 =>
         rw [h1] at h
         cases r1 with
         | error e => simp at h
         | ok p1 =>
           simp only at h
           rw [change_up hr f σ _ p1 s1 h1]
           simp only
           cases h2 : pFillIf room' disk p1 s1 (swap n (child n.keys key) (child n.keys key + 1) p1.1 p1.2) (child n.keys key) (24 - f) with
           | mk r2 s2 =>
             rw [h2] at h
             cases r2 with
             | error e => simp at h
             | ok n2 =>
               simp only at h
               rw [fillIf_up hr h2]
               exact store_up hr _ _ _ _ _ _ h
theorem grow_up (hr : room' <= room) : ∀ (f : Nat) (σ : Pst) (p : Part) (r : Int) (σ' : Pst), pGrow room' disk f σ p = (.ok r, σ') -> pGrow room disk f σ p = (.ok r, σ')
 | 0, _, _, _, _, h => by unfold pGrow at h; cases h
 | f + 1, σ, p, r, σ', h => by
   unfold pGrow at h ⊢
   split
   · rename_i hc
     rw [if_pos hc] at h
     cases h1 : pStore room' (p.1.length + 1) σ 0 (mkInner p.1 p.2) with
     | mk r1 s1 =>
       rw [h1] at h
       cases r1 with
       | error e => simp at h
       | ok q =>
         simp only at h
         rw [store_up hr _ _ _ _ _ _ h1]
         exact grow_up hr f s1 q r σ' h
   · rename_i hc
     rw [if_neg hc] at h
     exact h
theorem update_up (hr : room' <= room) {g : List En.Ent -> List En.Ent} {key : Str} {root r : Int} (h : pUpdate room' disk g key σ root = (.ok r, σ')) : pUpdate room disk g key σ root = (.ok r, σ') := by
 unfold pUpdate at h ⊢
 cases h1 : pFirst room' disk g key σ root with
 | mk r1 s1 =>
   rw [h1] at h
   cases r1 with
   | error e => simp at h
   | ok p =>
     simp only at h
     have h2 : pFirst room disk g key σ root = (.ok p, s1) := by
       unfold pFirst at h1 ⊢
       split
       · rename_i hz
         rw [if_pos hz] at h1; exact store_up hr _ _ _ _ _ _ h1
       · rename_i hz
         rw [if_neg hz] at h1; exact change_up hr _ _ _ _ _ h1
     rw [h2]
     exact grow_up hr _ _ _ _ _ h
theorem low_of4 {h t : Nat} (h1 : h = 0 \/ 2 * 6 ^ (h - 1) <= t) (h2 : t <= 1000) : h <= 4 := by
 by_cases hh : h <= 4
 · exact hh
 · rcases h1 with h1 | h1
   · omega
   · have : 6 ^ 4 <= 6 ^ (h - 1) := Nat.pow_le_pow_right (by decide) (by omega)
     have e : (6 : Nat) ^ 4 = 1296 := by decide
     omega
theorem update_ok16 {g : List En.Ent -> List En.Ent} {key : Str} (GO : GOp g key) (hap : ApS room used σ) {root : Int} {es : List En.Ent} {tok : Nat} {ids : List Int} (hr : RootAt disk used σ root es tok ids) (ht : tok <= 1000) (δ : Nat) (hd : (g es).length <= es.length + δ) :
   Res room disk used σ (fun x => x ∈ ids) 16 (pUpdate room disk g key σ root) (fun root' σ' ids' => RootAt disk used σ' root' (g es) (tok + δ) ids') := by
 have hfirst : ∃ h, h <= 20 /\ Res room disk used σ (fun x => x ∈ ids) 15 (pFirst room disk g key σ root) (fun p σ' ids => PartsAt (σ'.view disk) h none none p ids (g es) (tok + δ) False) := by
   unfold pFirst
   rcases hr with ⟨rfl, rfl, rfl⟩ | ⟨h, s, rfl, rfl, rfl, q4, q5, q6, q7, q8⟩
   · refine ⟨0, by omega, ?_⟩
     rw [if_pos rfl]
     have hst := store_leaf (disk := disk) hap 0 (l := g []) (lo := none) (hi := none) (tok := tok + δ) (big := False) (GO.right _ rfl) (fun x _ => ⟨(fun a h => by cases h), (fun a h => by cases h)⟩) (by have := GO.size []; simp [esize] at this ⊢; omega) (by simp at hd; omega)
     rcases hst with ⟨a, ids1, e1, s1, n1, l1, q⟩ | ⟨e1, s1, l1⟩
     · exact .inl ⟨a, ids1, e1, s1.shrink (fun x hx _ hu => no_zero hap (by omega) hu) (fun x hx => by simp at hx), n1, by omega, q⟩
     · exact .inr ⟨e1, s1, by omega⟩
   · have h8 := low_of4 q8 (by omega)
     have hz : s.id ≠ 0 := fun e => by
       have := use_range hap (q7 s.id (tr_id q5))
       omega
     refine ⟨h, by omega, ?_⟩
     rw [if_neg hz]
     have hc := change_ok GO δ h 24 σ none none s False (by omega) (by omega) hap q5 q6 q7 (fun a h => by cases h) (fun a h => by cases h) (fun h => h.elim) hd
     refine hc.mono (fun _ => Iff.rfl) (by omega) fun p σ' ids1 hq => ?_
     rcases hq with h1 | ⟨subs, w1, w2, w3, w4, w5⟩
     · exact .inl h1
     · exact .inr ⟨subs, w1, w2, w3, by omega, w5⟩
 obtain ⟨h, hh, hf⟩ := hfirst
 unfold pUpdate
 generalize pFirst room disk g key σ root = r at *
 obtain ⟨r, σ1⟩ := r
 rcases hf with ⟨p, ids1, e1, s1, n1, l1, q⟩ | ⟨e1, s1, l1⟩
 · simp only at e1 s1 l1 q
   subst e1
   simp only
   have hg := grow_ok s1.ap q hh n1 (fun x hx => s1.got hx)
   rcases hg with ⟨a, ids2, e2, s2, n2, l2, q2⟩ | ⟨e2, s2, l2⟩
   · exact .inl ⟨a, ids2, e2, s1.then_ s2, n2, by omega, q2⟩
   · exact .inr ⟨e2, s2, by omega⟩
 · simp only at e1 s1 l1
   subst e1
   exact .inr ⟨rfl, s1, by omega⟩
theorem ap_room (h : ApS room used σ) (h1 : σ.pages <= room') (h2 : room' <= 100000) : ApS room' used σ :=
 { h with pg := ⟨h.pg.1, h1, h2⟩ }
theorem update_room {g : List En.Ent -> List En.Ent} {key : Str} (GO : GOp g key) (hap : ApS room used σ) {root : Int} {es : List En.Ent} {tok : Nat} {ids : List Int} (hr : RootAt disk used σ root es tok ids) (ht : tok <= 1000) (δ : Nat) (hd : (g es).length <= es.length + δ) (hm : ((Rp.nums used).length : Int) + σ.mine.length + 19 <= room) :
   ∃ root' σ' ids', pUpdate room disk g key σ root = (.ok root', σ') /\ Step room disk used σ (fun x => x ∈ ids) σ' (fun x => x ∈ ids') /\ ids'.Nodup /\ RootAt disk used σ' root' (g es) (tok + δ) ids' /\ σ'.pages <= max σ.pages (((Rp.nums used).length : Int) + σ.mine.length + 19) /\ FL σ' <= FL σ + 2 := by
 obtain ⟨R, hR⟩ : ∃ R : Int, R = max σ.pages (((Rp.nums used).length : Int) + σ.mine.length + 19) := ⟨_, rfl⟩
 have hpg := hap.pg
 have hRr : R <= room := by omega
 have hap' := ap_room (room' := R) hap (by omega) (by omega)
 have h1 := update_ok16 GO hap' hr ht δ hd
 have h2 := update_ok16 GO hap hr ht δ hd
 rcases h1 with ⟨r1, i1, e1, s1, _, _, _⟩ | ⟨_, _, l1⟩
 · have eq1 : pUpdate R disk g key σ root = (.ok r1, (pUpdate R disk g key σ root).2) := by rw [<- e1]
   have eq2 := update_up hRr eq1
   have hFL := update_L GO hap hr (by omega) δ hd eq2
   rcases h2 with ⟨r2, i2, e2, s2, n2, _, q2⟩ | ⟨e2, _, _⟩
   · rw [eq2] at e2 s2 q2
     simp only [Except.ok.injEq] at e2
     subst e2
     exact ⟨r1, _, i2, eq2, s2, n2, q2, by have := s1.ap.pg.2.1; omega, hFL⟩
   · rw [eq2] at e2; simp at e2
 · exfalso
   unfold spare at l1
   omega
end
def isIn (v : Int -> Option Node) (x : Int) : Bool := match v x with
 | some n => !n.leaf
 | none => false
def inC (v : Int -> Option Node) (ids : List Int) : Nat := ids.countP (isIn v)
def ilev : Nat -> Nat -> Nat
 | 0, _ => 0
 | h + 1, t => t / 6 ^ (h + 1) + ilev h t
theorem ilev_add : ∀ (h a b : Nat), ilev h a + ilev h b <= ilev h (a + b)
 | 0, a, b => Nat.le_refl _
 | h + 1, a, b => by
   have h1 := ilev_add h a b
   have h2 := div_add_le a b (6 ^ (h + 1))
   simp only [ilev]
   omega
theorem ilev_mono : ∀ (h : Nat) {a b : Nat}, a <= b -> ilev h a <= ilev h b
 | 0, _, _, _ => Nat.le_refl _
 | h + 1, a, b, hab => by
   have h1 := ilev_mono h hab
   have h2 := Nat.div_le_div_right (c := 6 ^ (h + 1)) hab
   simp only [ilev]
   omega
theorem ilev_le : ∀ (h t : Nat), 5 * ilev h t + t / 6 ^ h <= t
 | 0, t => by simp [ilev]
 | h + 1, t => by
   have h1 := ilev_le h t
   have h2 : t / 6 ^ (h + 1) = t / 6 ^ h / 6 := by rw [Nat.pow_succ, Nat.div_div_eq_div_mul]
   simp only [ilev]
   omega
theorem inC_kids {v : Int -> Option Node} {h : Nat} (ih : ∀ lo hi s, 6 ^ h <= s.tok -> Tr v h lo hi s -> inC v s.ids <= ilev h s.tok) {lo hi : Option Str} {subs : List Sub} {keys : List Str} (h6 : ∀ t ∈ subs, 6 ^ h <= t.tok) (hch : Chain (Tr v h) lo hi subs keys) : inC v (ids_ subs) <= ilev h (toks subs) := by
 have key : ∀ l : List Sub, (∀ t ∈ l, t ∈ subs) -> inC v (ids_ l) <= ilev h (toks l) := by
   intro l
   induction l with
   | nil => intro _; exact Nat.zero_le _
   | cons t l ihl =>
     intro hl
     obtain ⟨l', h', hp⟩ := chain_all hch t (hl t List.mem_cons_self)
     have h1 := ih l' h' t (h6 t (hl t List.mem_cons_self)) hp
     have h2 := ihl fun u hu => hl u (List.mem_cons_of_mem _ hu)
     have h3 := ilev_add h t.tok (toks l)
     rw [ids_cons, toks_cons]
     unfold inC at *
     rw [List.countP_append]
     omega
 exact key subs fun _ h => h
theorem inC_lev {v : Int -> Option Node} : ∀ (h : Nat) (lo hi : Option Str) (s : Sub), 6 ^ h <= s.tok -> Tr v h lo hi s -> inC v s.ids <= ilev h s.tok
 | 0, lo, hi, s, h6, hs => by
   rw [hs.2.1]
   unfold inC
   rw [List.countP_singleton]
   unfold isIn
   rw [hs.1]
   simp [mkLeaf]
 | h + 1, lo, hi, s, h6, hs => by
   obtain ⟨subs, keys, a1, a2, a3, a4, a5, a6, a7⟩ := hs
   have h1 := inC_kids (inC_lev h) a6 a7
   have h2 := ilev_mono h a5
   have h3 : 0 < s.tok / 6 ^ (h + 1) := Nat.div_pos h6 (Nat.pow_pos (by decide))
   rw [a3]
   unfold inC at *
   rw [List.countP_cons]
   simp only [ilev]
   split <;> omega
theorem inC_root {v : Int -> Option Node} {h : Nat} {lo hi : Option Str} {s : Sub} (hs : Tr v h lo hi s) : 5 * inC v s.ids <= s.tok + 5 := by
 cases h with
 | zero =>
   rw [hs.2.1]
   unfold inC
   rw [List.countP_singleton]
   split <;> omega
 | succ h =>
   obtain ⟨subs, keys, a1, a2, a3, a4, a5, a6, a7⟩ := hs
   have h1 := inC_kids (inC_lev h) a6 a7
   have h2 := Nat.le_trans (Nat.le_add_right _ _) (ilev_le h (toks subs))
   rw [a3]
   unfold inC at *
   rw [List.countP_cons]
   split <;> omega
theorem mine_le {disk : Disk} {used : List Run} {σ : Pst} {root : Int} {es : List En.Ent} {tok : Nat} {ids : List Int} {room : Int} (hap : ApS room used σ) (h : RootAt disk used σ root es tok ids) (hm : ∀ x, x ∈ σ.mine -> x ∈ ids) : 5 * σ.mine.length <= 5 * FL σ + tok + 5 := by
 have hsome := h.some_
 have hle : σ.mine.length <= FL σ + inC (σ.view disk) ids := by
   have h1 := List.length_eq_countP_add_countP (lfAt σ) (l := σ.mine)
   have h2 : σ.mine.countP (fun a => decide ¬(lfAt σ a) = true) <= inC (σ.view disk) ids := by
     unfold inC
     rw [List.countP_eq_length_filter, List.countP_eq_length_filter]
     refine List.Nodup.length_le_of_subset (hap.nd.filter _) fun x hx => ?_
     obtain ⟨hx1, hx2⟩ := List.mem_filter.1 hx
     refine List.mem_filter.2 ⟨hm x hx1, ?_⟩
     obtain ⟨n, hn⟩ := hsome x (hm x hx1)
     have hn2 := hn
     rw [view_mine hx1] at hn2
     unfold isIn
     rw [hn]
     unfold lfAt at hx2
     rw [hn2] at hx2
     simpa using hx2
   unfold FL
   omega
 rcases h with ⟨_, _, rfl⟩ | ⟨hh, s, _, rfl, _, q4, q5, _⟩
 · have : inC (σ.view disk) [] = 0 := rfl
   omega
 · have := inC_root q5
   omega
end Tp
namespace Go.Proofs.YtpfplojkiloldaaGreatDoor
open Go.RowKit Go.Shelf Go.Maps
section
variable {F F' : FFile} {n : Nat} {a : TAd} {used : List Run} {disk : Tp.Disk} {root : Int} {σ : Tp.Pst} {ids : List Int} {es : List Ent} {tok r : Nat} {w w' : World}
def Topp (used : List Run) (σ : Tp.Pst) : Int := ((Rp.nums used).length : Int) + σ.mine.length + 19
theorem fst_put_r (h : FSt F n a used disk root σ ids es tok (r + 240) w) {k v : ByteArray} (hm : En.may k v = true) (ht : tok + 1 <= 1000) (hroom : Topp used σ <= max (n : Int) 2) :
   Calls Tryz.prog 15 #[.pointer (some ⟨a.u, 0, none⟩), .string k, .string v] w fun e w' => e = .returned (.int .i64 0) /\ (∃ root' σ' ids', FSt F n a used disk root' σ' ids' (En.put es k v) (tok + dput es k) r w' /\ σ'.pages <= max σ.pages (Topp used σ) /\ Tp.FL σ' <= Tp.FL σ + 2) /\ Fr (FU F a) w w' := by
 have hg := gPut_eq h.rt.right hm
 have hd := dput_le es k
 obtain ⟨root', σ', ids', e1, s1, n1, q1, p1, l1⟩ := Tp.update_room (room := max (n : Int) 2) (Tp.gPut_op hm) h.ap h.rt (by omega) (dput es k) (by rw [hg]; exact eput_len es) hroom
 have h3 : (Tp.pUpdate (max (n : Int) 2) disk (Tp.gPut k v) k σ root).1 ≠ .error 3 := by rw [e1]; simp
 refine (ctput_may h.mach a.u root k v hm r σ h3 w h.on).mono ?_
 rintro e w' ⟨hres, hf⟩
 rw [e1] at hres
 rcases hres with ⟨p, hp, rfl, ho⟩ | ⟨hp, _⟩
 · injection hp with hp
   subst hp
   refine ⟨rfl, ⟨root', σ', ids', ⟨ho, h.hd, by rw [<- hg]; exact q1, fun x hx => ?_, by have := h.tl; omega⟩, p1, l1⟩, hf⟩
   rcases (s1.mem x).1 hx with ⟨a1, a2⟩ | ⟨a1, _⟩
   · exact absurd (h.mine x a1) a2
   · exact a1
 · cases hp
theorem fst_del_r (h : FSt F n a used disk root σ ids es tok (r + 288) w) (k : ByteArray) (ht : tok <= 1000) (hroom : Topp used σ <= max (n : Int) 2) :
   Calls Tryz.prog 21 #[.pointer (some ⟨a.u, 0, none⟩), .string k] w fun e w' => ∃ b : Bool, e = .returned (.tuple #[.bool b, .int .i64 0]) /\ (∃ root' σ' ids', FSt F n a used disk root' σ' ids' (En.del es k) tok r w' /\ σ'.pages <= max σ.pages (Topp used σ) /\ Tp.FL σ' <= Tp.FL σ + 2) /\ Fr (FU F a) w w' := by
 have hfd := h.find k
 cases hgk : En.get es k with
 | none =>
   rw [hgk] at hfd
   refine (tdel_none h.mach a.u root k (r + 240) σ hfd w h.on).mono ?_
   rintro e w' ⟨rfl, ho, hf⟩
   refine ⟨false, rfl, ⟨root, σ, ids, ?_, by omega, by omega⟩, hf.more fun _ => .inl⟩
   rw [del_none_ hgk]
   exact (h.with_ ho).less (by omega)
 | some v =>
   rw [hgk] at hfd
   have hg := gDel_eq (k := k) h.rt.right
   obtain ⟨root', σ', ids', e1, s1, n1, q1, p1, l1⟩ := Tp.update_room (room := max (n : Int) 2) (Tp.gDel_op k) h.ap h.rt (by omega) 0 (by rw [hg]; exact del_len es k) hroom
   have h3 : (Tp.pUpdate (max (n : Int) 2) disk (Tp.gDel k) k σ root).1 ≠ .error 3 := by rw [e1]; simp
   refine (tdel_some h.mach a.u root k v r σ hfd h3 w h.on).mono ?_
   rintro e w' ⟨hres, hf⟩
   rw [e1] at hres
   rcases hres with ⟨p, hp, rfl, ho⟩ | ⟨hp, _⟩
   · injection hp with hp
     subst hp
     refine ⟨true, rfl, ⟨root', σ', ids', ⟨ho, h.hd, by rw [<- hg]; exact q1, fun x hx => ?_, by have := h.tl; omega⟩, p1, l1⟩, hf⟩
     rcases (s1.mem x).1 hx with ⟨a1, a2⟩ | ⟨a1, _⟩
     · exact absurd (h.mine x a1) a2
     · exact a1
   · cases hp
def KeepL (w w' : World) : Prop := ∀ (α : Type) (E : Enc α) (ty : TypeId) (base : Nat) (v : Value) (l : List α), LO E ty w base v l -> (ty = 38 \/ ty = 3 \/ ty = 32) -> LO E ty w' base v l
theorem KeepL.of (h : Below w.heap.size w w') : KeepL w w' := fun _ _ _ _ _ _ hl _ => hl.below h
theorem FSt.keepL (h : FSt F n a used disk root σ ids es tok r w) (hf : Fr (FU F a) w w') : KeepL w w' := fun α E ty base v l hl ht => lo_frb hl hf fun g hg => by
 obtain ⟨cs, hB, _⟩ := hl.blk_ hg
 obtain ⟨R, _, _, hA⟩ := h.on.tm.file
 obtain ⟨D, ⟨_, ⟨v, hT, _⟩, es', c', hm, _⟩, _⟩ := h.on.tm.mem.txn
 rintro ((e | e | e) | e)
 · exact hB.ne_ hT (by rcases ht with rfl | rfl | rfl <;> decide) e
 · subst e
   unfold Blk at hB
   rw [hm] at hB; cases hB
 · exact hB.ne_ hA.disk.self (by rcases ht with rfl | rfl | rfl <;> decide) e
 · exact hB.ne_ h.on.self (by rcases ht with rfl | rfl | rfl <;> decide) e
theorem FlD2.keepL {F' : FFile} {disk' : Tp.Disk} {N : Nat} (h : FlD2 F n a disk root σ ids es tok N r w F' disk' w') : KeepL w w' := fun α E ty base v l hl ht => h.row α E ty base v l hl (by rcases ht with rfl | rfl | rfl <;> decide) (by rcases ht with rfl | rfl | rfl <;> decide) (by rcases ht with rfl | rfl | rfl <;> decide)
theorem KeepL.row {α : Type} {E : Enc α} {ty : TypeId} {base : Nat} {v : Value} {l : List α} (h : LO E ty w base v l) (hg : w.grownBy w' v.ownBlock) : ∀ (β : Type) (E' : Enc β) (ty' : TypeId) (base' : Nat) (v' : Value) (l' : List β), LO E' ty' w base' v' l' -> ty' ≠ ty -> LO E' ty' w' base' v' l' := fun β E' ty' base' v' l' hl hne => lo_frb hl (Fr.of_grown hg) fun g hg' hS => by
 obtain ⟨cs, hB, _⟩ := hl.blk_ hg'
 obtain ⟨cs', hB', _⟩ := h.blk_ hS
 exact hB.ne_ hB' hne rfl
theorem FReady.nblk {N : Nat} (h : FReady F n disk N r w) {g : Nat} {ty : TypeId} {cs : Array Value} (hB : Blk w g ty cs) (h1 : ty ≠ 99) (h2 : ty ≠ 110) (h3 : ty ≠ 9) (h4 : ty ≠ 172) : ¬ F.Blks g := fun hg => by
 obtain ⟨R, _, _, hA⟩ := h.file
 rcases hg with e | e | e | e | e
 · exact hB.ne_ hA.self h1 e
 · exact hB.ne_ hA.disk.self h2 e
 · exact hB.ne_ hA.disk.sure h3 e
 · subst e
   obtain ⟨es', c', hm, _⟩ := hA.disk.map
   unfold Blk at hB
   rw [hm] at hB; cases hB
 · obtain ⟨cs', hB', _⟩ := hA.disk.pend.blk_ e
   exact hB.ne_ hB' h4 rfl
theorem FReady.fr {N : Nat} {S : Nat -> Prop} (h : FReady F n disk N r w) (hf : Fr S w w') (hS : ∀ g, F.Blks g -> ¬ S g) (h0 : ¬ S 0) : FReady F n disk N r w' := by
 obtain ⟨h1, ⟨R, r1, r2, r3⟩, h3, h4, h5⟩ := h
 exact ⟨h1, ⟨R, r1, r2, r3.fr hf hS⟩, h3.fr hf h0, h4, Nat.le_trans h5 hf.size⟩
theorem nums_minus {P : Int} (hP : 2 <= P) (l : List Run) : ((Rp.nums (Rp.minus [(2, P - 1)] l)).length : Int) <= P - 2 := by
 have h1 := Rp.minus_ok [(2, P - 1)] l
 have hnd := Rp.nums_nodup _ _ h1.1
 have hsub : Rp.nums (Rp.minus [(2, P - 1)] l) ⊆ (List.range (P - 2).toNat).map (fun i : Nat => (2 : Int) + (i : Int)) := fun x hx => by
   have h2 := ((h1.2 x).1 (Rp.mem_nums.1 hx)).2.2.1
   have h3 := Rp.mem_two.1 h2
   exact List.mem_map.2 ⟨(x - 2).toNat, List.mem_range.2 (by omega), by omega⟩
 have := List.Nodup.length_le_of_subset hnd hsub
 simp at this
 omega
end
end Go.Proofs.YtpfplojkiloldaaGreatDoor
namespace Go.Proofs.YtpfplojkiloldaaGreatDoor
open Go.RowKit Go.Shelf
theorem rsize_any (A : Option Addr) (c : Nat) (l : List Ent) (w : World) (hr : LS entE w w.heap.size A l) (hl : l.length <= 100000) (hs : Nd.esize l <= 1000000000) :
   Calls Tryz.prog 161 #[.slice A l.length c] w fun e w' => e = .returned (.int .i64 (Nd.esize l : Nat)) /\ Below w.heap.size w w' := by
 obtain ⟨R, hR⟩ : ∃ R, R = Nd.esize l := ⟨_, rfl⟩
 rw [<- hR] at hs ⊢
 have HR := Lib.hid hR
 have HT := Lib.hid (fun k => esize_take_le l k)
 clear hR
 go_enter Tryz.func161, Tryz.ntmps161
 go_wp2
 go_loopw [3, 4] (fun s i wr => ∃ k m : Nat, k <= l.length /\ i = .int .i64 k /\ s = .int .i64 m /\ m <= 1000000000 /\ Hid (m = Nd.esize (l.take k)) /\ Below w.heap.size w wr) (fun _ i _ => l.length - (intOf i).toNat)
 case atStart => exact ⟨0, 0, by omega, rfl, rfl, by omega, Lib.hid rfl, Below.refl _ _⟩
 case round =>
   obtain ⟨k, m, hkk, rfl, rfl, hm, HM, hbe⟩ := hrel
   by_cases hlt : k < l.length
   · obtain ⟨b1, o1, rfl, hb1, g0, g1⟩ := (hr.below hbe).ent hlt
     have h1 := Nd.esize_take_succ l k hlt
     have h2 := HT.out (k + 1)
     rw [h1] at h2
     have H1 := Lib.hid h1
     obtain ⟨x, hx⟩ : ∃ x, x = l[k] := ⟨_, rfl⟩
     rw [<- hx] at g0 g1 h2
     have h3 : m + (2 + x.1.size + x.2.size) <= 1000000000 := by rw [HM.out]; rw [HR.out] at hs; have : Nd.esz x = 2 + x.1.size + x.2.size := rfl; omega
     have HX := Lib.hid hx
     have hbz : b1 < wr.heap.size := Nat.lt_of_lt_of_le hb1 hbe.size
     have hki : (k : Int) < (l.length : Nat) := by omega
     have e1 : IntKind.i64.wrap ((m : Int) + 2) = (m : Int) + 2 := IntWalk.i64_in _ (by omega)
     have e2 : IntKind.i64.wrap ((m : Int) + 2 + (x.1.size : Nat)) = (m : Int) + 2 + (x.1.size : Nat) := IntWalk.i64_in _ (by omega)
     have e3 : IntKind.i64.wrap ((m : Int) + 2 + (x.1.size : Nat) + (x.2.size : Nat)) = (m : Int) + 2 + (x.1.size : Nat) + (x.2.size : Nat) := IntWalk.i64_in _ (by omega)
     clear h1 hx h2
     go_wp2
     go_quiet (fail)
     go_wp2
     go_roundw
     case rel =>
       refine ⟨k + 1, m + (2 + x.1.size + x.2.size), by omega, by go_num, by go_num, by omega, Lib.hid ?_, below_drewN hbe _⟩
       rw [H1.out, HM.out, <- HX.out]; rfl
     case measure => simp [intOf]; omega
   · obtain rfl : k = l.length := by omega
     go_wp2
     go_ret
     refine ⟨?_, hbe⟩
     have e1 : m = R := by rw [HM.out, HR.out, List.take_length]
     rw [e1]; rfl
theorem rnright_leaf (Ae Ai Ay : Option Addr) (ce ci cy : Nat) (l : List Ent) (hr : En.right l = true) (w : World) (he : LS entE w w.heap.size Ae l) (hl : l.length <= 100000) :
   Calls Tryz.prog 128 #[nodeV true Ae l.length ce Ai 0 ci Ay 0 cy] w fun e w' => e = .returned (.bool true) /\ Below w.heap.size w w' := by
 have hB := Blk.new w 93 #[.bool true, .slice Ae l.length ce, .slice Ai 0 ci, .slice Ay 0 cy]
 have hE := rright_any Ae ce l (w.alloc (.cells #[.bool true, .slice Ae l.length ce, .slice Ai 0 ci, .slice Ay 0 cy] 93)) (he.up ((Below.refl _ _).alloc (Nat.le_refl _) _)) (by omega)
 rw [hr] at hE
 have HE := Lib.hid hE
 unfold nodeV
 clear he hE hr
 go_enter Tryz.func128, Tryz.ntmps128
 go_wp2_with fail
 refine HE.out.mono ?_
 rintro e w1 ⟨rfl, hb1⟩
 have hB1 := hB.below hb1 hB.lt
 have c1 := hB1.cell 2
 have c2 := hB1.cell 3
 have hl1 := hB1.lt
 go_wp2
 go_ret
 exact ⟨rfl, ((Below.refl _ _).alloc (Nat.le_refl _) _).trans (hb1.mono (by simp))⟩
theorem rnright_inner (Ae Ai Ay : Option Addr) (ce ci cy : Nat) (is : List Int) (ks : List ByteArray) (hlen : ks.length + 1 = is.length) (hk : ∀ i ∈ is, 2 <= i /\ i <= 4294967295) (hs : Nd.keysFrom none ks = true) (w : World) (hi : LS intE w w.heap.size Ai is) (hy : LS keyE w w.heap.size Ay ks) (hl : is.length <= 100000) :
   Calls Tryz.prog 128 #[nodeV false Ae 0 ce Ai is.length ci Ay ks.length cy] w fun e w' => e = .returned (.bool true) /\ Below w.heap.size w w' := by
 obtain ⟨hm, hsr⟩ := (Nd.keys_iff ks).1 hs
 have HK := Lib.hid hk
 have HM := Lib.hid hm
 have HS := Lib.hid hsr
 have HI := Lib.hid hi
 have HY := Lib.hid hy
 have hkl : ks.length <= 100000 := by omega
 have e0 : ((is.length : Int) == 0) = false := by rw [beq_eq_false_iff_ne]; omega
 have e1 : IntKind.i64.wrap ((is.length : Int) - 1) = (ks.length : Int) := (IntWalk.i64_in _ (by omega)).trans (by omega)
 have hbe := (Below.refl w.heap.size w).alloc (Nat.le_refl _) (.cells #[.bool false, .slice Ae 0 ce, .slice Ai is.length ci, .slice Ay ks.length cy] 93)
 have hB := Blk.new w 93 #[.bool false, .slice Ae 0 ce, .slice Ai is.length ci, .slice Ay ks.length cy]
 unfold nodeV
 clear hk hs hm hsr hi hy
 go_enter Tryz.func128, Tryz.ntmps128
 go_wp2
 go_loopw [4] (fun i wr => ∃ k : Nat, k <= is.length /\ i = .int .i64 k /\ Below w.heap.size w wr /\ Blk wr w.heap.size 93 #[.bool false, .slice Ae 0 ce, .slice Ai is.length ci, .slice Ay ks.length cy]) (fun i _ => is.length - (intOf i).toNat)
 case atStart => exact ⟨0, by omega, rfl, hbe, hB⟩
 case round =>
   obtain ⟨k, hkk, rfl, hbr, hBr⟩ := hrel
   have q2 := hBr.cell 2
   have q3 := hBr.cell 3
   have ql := hBr.lt
   by_cases hlt : k < is.length
   · obtain ⟨b1, o1, rfl, hb1, g0⟩ := (HI.out.below hbr).int hlt
     have hr := HK.out _ (List.getElem_mem hlt)
     generalize is[k] = x at *
     have hbz : b1 < wr.heap.size := Nat.lt_of_lt_of_le hb1 hbr.size
     have r1 : ¬ x < 2 := by omega
     have r2 : ¬ 4294967295 < x := by omega
     have hki : (k : Int) < (is.length : Nat) := by omega
     clear hr
     go_wp2
     go_roundw
     case rel => exact ⟨k + 1, by omega, by go_num, hbr, hBr⟩
     case measure => simp [intOf]; omega
   · obtain rfl : k = is.length := by omega
     clear hlt
     go_wp2
     go_loopw [5] (fun i wr => ∃ k : Nat, k <= ks.length /\ i = .int .i64 k /\ Below w.heap.size w wr /\ Blk wr w.heap.size 93 #[.bool false, .slice Ae 0 ce, .slice Ai is.length ci, .slice Ay ks.length cy]) (fun i _ => ks.length - (intOf i).toNat)
     case atStart => exact ⟨0, by omega, rfl, hbr, hBr⟩
     case round =>
       obtain ⟨k, hkk, rfl, hbr, hBr⟩ := hrel
       have q2 := hBr.cell 2
       have q3 := hBr.cell 3
       have ql := hBr.lt
       by_cases hlt : k < ks.length
       · obtain ⟨b1, o1, rfl, hb1, g0⟩ := (HY.out.below hbr).key hlt
         have hmx := HM.out _ (List.getElem_mem hlt)
         have hc := fun W => may_any ks[k] ⟨#[]⟩ W
         rw [hmx] at hc
         have HC := Lib.hid hc
         have hbz : b1 < wr.heap.size := Nat.lt_of_lt_of_le hb1 hbr.size
         have hki : (k : Int) < (ks.length : Nat) := by omega
         by_cases h0 : k = 0
         · subst h0
           generalize ks[0] = x at *
           simp only [Nat.add_zero] at g0
           clear hmx hc
           go_wp2_with fail
           refine (HC.out _).mono ?_
           rintro e _ ⟨rfl, rfl⟩
           go_wp2
           go_quiet (fail)
           go_wp2
           go_roundw
           case rel => exact ⟨1, by omega, rfl, below_drewN hbr _, hBr⟩
           case measure => simp [intOf]; omega
         · obtain ⟨b2, o2, hx2, hb2, g1⟩ := (HY.out.below hbr).key (k := k - 1) (by omega)
           cases hx2
           have hlt2 := List.pairwise_iff_getElem.1 HS.out (k - 1) k (by omega) hlt (by omega)
           have hbl : Op.bytesLess (ks[k - 1]'(by omega)).toList (ks[k]).toList = true := hlt2
           generalize ks[k] = x at *
           generalize ks[k - 1]'(by omega) = y at *
           have hk0 : 0 < (k : Int) := by omega
           have hkn : 0 < k := by omega
           have ek : IntKind.i64.wrap ((k : Int) - 1) = ((k - 1 : Nat) : Int) := (IntWalk.i64_in _ (by omega)).trans (by omega)
           have hk1 : k - 1 < ks.length := by omega
           clear hmx hc hlt2 h0
           go_wp2_with fail
           refine (HC.out _).mono ?_
           rintro e _ ⟨rfl, rfl⟩
           go_wp2
           go_quiet (fail)
           go_wp2
           go_roundw
           case rel => exact ⟨k + 1, by omega, by go_num, below_drewN hbr _, hBr⟩
           case measure => simp [intOf]; omega
       · obtain rfl : k = ks.length := by omega
         go_wp2
         go_ret
         exact ⟨rfl, hbr⟩
theorem rnsize_leaf (Ae Ai Ay : Option Addr) (ce ci cy ni ny : Nat) (l : List Ent) (w : World) (he : LS entE w w.heap.size Ae l) (hl : l.length <= 100000) (hs : Nd.esize l <= 1000000000) :
   Calls Tryz.prog 129 #[nodeV true Ae l.length ce Ai ni ci Ay ny cy] w fun e w' => e = .returned (.int .i64 (Nd.esize l : Nat)) /\ Below w.heap.size w w' := by
 have HE := Lib.hid (rsize_any Ae ce l (w.alloc (.cells #[.bool true, .slice Ae l.length ce, .slice Ai ni ci, .slice Ay ny cy] 93)) (he.up ((Below.refl _ _).alloc (Nat.le_refl _) _)) hl hs)
 unfold nodeV
 clear he hs
 generalize Nd.esize l = R at *
 go_enter Tryz.func129, Tryz.ntmps129
 go_wp2_with fail
 refine HE.out.mono ?_
 rintro e w1 ⟨rfl, hb1⟩
 go_wp2
 go_ret
 exact ⟨rfl, ((Below.refl _ _).alloc (Nat.le_refl _) _).trans (hb1.mono (by simp))⟩
theorem rnsize_inner (Ae Ai Ay : Option Addr) (ce ci cy ne ni : Nat) (ks : List ByteArray) (w : World) (hy : LS keyE w w.heap.size Ay ks) (hl : ks.length <= 100000) (hs : Nd.ksize ks <= 1000000000) :
   Calls Tryz.prog 129 #[nodeV false Ae ne ce Ai ni ci Ay ks.length cy] w fun e w' => e = .returned (.int .i64 ((4 + Nd.ksize ks : Nat) : Int)) /\ Below w.heap.size w w' := by
 obtain ⟨R, hR⟩ : ∃ R, R = Nd.ksize ks := ⟨_, rfl⟩
 rw [<- hR] at hs ⊢
 have HR := Lib.hid hR
 have HT := Lib.hid (fun k => ksize_take_le ks k)
 have hbe := (Below.refl w.heap.size w).alloc (Nat.le_refl _) (.cells #[.bool false, .slice Ae ne ce, .slice Ai ni ci, .slice Ay ks.length cy] 93)
 have hk := hy.below hbe
 unfold nodeV
 clear hR hy
 go_enter Tryz.func129, Tryz.ntmps129
 go_wp2
 go_loop [3, 4] (fun s i => ∃ k m : Nat, k <= ks.length /\ i = .int .i64 k /\ s = .int .i64 m /\ m <= 1000000004 /\ Hid (m = 4 + Nd.ksize (ks.take k))) (fun _ i => ks.length - (intOf i).toNat)
 case atStart => exact ⟨0, 4, by omega, rfl, rfl, by omega, Lib.hid rfl⟩
 case round =>
   obtain ⟨k, m, hkk, rfl, rfl, hm, HM⟩ := hrel
   by_cases hlt : k < ks.length
   · obtain ⟨b1, o1, rfl, hb1, g0⟩ := hk.key hlt
     have h1 := Nd.ksize_take_succ ks k hlt
     have h2 := HT.out (k + 1)
     rw [h1] at h2
     have H1 := Lib.hid h1
     obtain ⟨x, hx⟩ : ∃ x, x = ks[k] := ⟨_, rfl⟩
     rw [<- hx] at g0 h2
     have h3 : m + (5 + x.size) <= 1000000004 := by rw [HM.out]; rw [HR.out] at hs; have : Nd.ksz x = 5 + x.size := rfl; omega
     have HX := Lib.hid hx
     have hki : (k : Int) < (ks.length : Nat) := by omega
     have h5 : 0 <= (x.size : Int) := by omega
     clear h1 hx h2
     go_wp2
     go_round
     case rel =>
       refine ⟨k + 1, m + (5 + x.size), by omega, by go_num, by go_num, by omega, Lib.hid ?_⟩
       rw [H1.out, HM.out, <- HX.out]; show _ = _ + (_ + (5 + x.size)); omega
     case measure => simp [intOf]; omega
   · obtain rfl : k = ks.length := by omega
     go_wp2
     go_ret
     refine ⟨?_, hbe⟩
     have e1 : m = 4 + R := by rw [HM.out, HR.out, List.take_length]
     rw [e1]; rfl
end Go.Proofs.YtpfplojkiloldaaGreatDoor
namespace Tp
open En
end Tp
namespace Go.Proofs.YtpfplojkiloldaaGreatDoor
open Go.RowKit Go.Shelf
theorem LS.pg {w : World} {B : Nat} {A : Option Addr} {l : List RawPg} (h : LS pgE w B A l) {k : Nat} (hk : k < l.length) : ∃ b off, A = some ⟨b, off, none⟩ /\ b < B /\ w.cell? ⟨b, off + k * 6, none⟩ = some (.int .i64 l[k].id) /\ w.cell? ⟨b, off + k * 6 + 1, none⟩ = some (.int .i64 (l[k].depth : Nat)) /\ w.cell? ⟨b, off + k * 6 + 2, none⟩ = some (.bool l[k].leaf) /\ w.cell? ⟨b, off + k * 6 + 3, none⟩ = some (.slice l[k].ae l[k].ne l[k].ce) /\ w.cell? ⟨b, off + k * 6 + 4, none⟩ = some (.slice l[k].ai l[k].ni l[k].ci) /\ w.cell? ⟨b, off + k * 6 + 5, none⟩ = some (.slice l[k].ay l[k].ny l[k].cy) := by
 obtain ⟨b, off, rfl, hb, hc⟩ := h.at_ hk
 exact ⟨b, off, rfl, hb, hc 0 (by decide), hc 1 (by decide), hc 2 (by decide), hc 3 (by decide), hc 4 (by decide), hc 5 (by decide)⟩
section
variable {root : Int} {σ : Tp.Pst} {ids : List Int} {es : List Ent} {tok : Nat} {P : List (Int × Nat × Nd.Node)}
end
def NL (B : Nat) (w : World) (x : RawPg) (n : Nd.Node) : Prop := x.leaf = n.leaf /\ x.ne = n.ents.length /\ x.ni = n.kids.length /\ x.ny = n.keys.length /\ LS entE w B x.ae n.ents /\ LS intE w B x.ai n.kids /\ LS keyE w B x.ay n.keys
theorem NL.below {B : Nat} {w w' : World} {x : RawPg} {n : Nd.Node} (h : NL B w x n) (hb : Below B w w') : NL B w' x n := by
 obtain ⟨h1, h2, h3, h4, h5, h6, h7⟩ := h
 exact ⟨h1, h2, h3, h4, h5.below hb, h6.below hb, h7.below hb⟩
structure PgL (g : Nat) (LA : Option Addr) (xs : List RawPg) (P : List (Int × Nat × Nd.Node)) (w : World) : Prop where
 ls : LS pgE w g LA xs
 len : xs.length = P.length
 at_ : ∀ (j : Nat) (h1 : j < xs.length) (h2 : j < P.length), xs[j].id = P[j].1 /\ xs[j].depth = P[j].2.1 /\ NL g w xs[j] P[j].2.2
theorem PgL.below {g : Nat} {LA : Option Addr} {xs : List RawPg} {P : List (Int × Nat × Nd.Node)} {w w' : World} (h : PgL g LA xs P w) (hb : Below g w w') : PgL g LA xs P w' :=
 ⟨h.ls.below hb, h.len, fun j h1 h2 => ⟨(h.at_ j h1 h2).1, (h.at_ j h1 h2).2.1, (h.at_ j h1 h2).2.2.below hb⟩⟩
def WkAt (g : Nat) (LA : Option Addr) (ln lc : Nat) (k leaf : Int) (o : List Ent) (Y : Option Nat) (w : World) : Prop :=
 ∃ oA oc, Blk w g 150 #[.slice LA ln lc, .int .i64 k, .int .i64 leaf, .slice oA o.length oc] /\ LO entE 38 w (g + 1) (.slice oA o.length oc) o /\ Y = (Value.slice oA o.length oc).ownBlock
def RpEnd (g : Nat) (LA : Option Addr) (ln lc : Nat) (k leaf : Int) (o : List Ent) (Y : Option Nat) (w : World) (e : Ending) (w' : World) : Prop :=
 e = .returned (.bool true) /\ (∃ Y', WkAt g LA ln lc k leaf o Y' w' /\ ∀ b, Y' = some b -> Y = some b \/ w.heap.size <= b) /\ Fr (fun b => b = g \/ Y = some b) w w'
def bs (o : Option En.Str) : ByteArray := o.getD ⟨#[]⟩
theorem bs_lo {lo : Option En.Str} {k : En.Str} (h : Tp.gtLo lo k) : Op.bytesLess k.toList (bs lo).toList = false := by
 cases lo with
 | none =>
   show Op.bytesLess k.toList (⟨#[]⟩ : ByteArray).toList = false
   rw [Go.Lib.toList_data (⟨#[]⟩ : ByteArray)]
   cases k.toList <;> rfl
 | some a => exact Tp.gtLo_some.1 h
theorem step_app2 {P : Program} {w : World} {ops : Array Oper} {o : Oper} {a : Act} {K : Act -> World -> Prop} {Q : Exit -> Act -> World -> Prop} {E : Prop} (hgd : o.guard = none) (s x : Operand) (t : TypeId)
   (ho : o.op = .call { callee := .builtin .append, args := #[s, x], argTypes := #[t, t] })
   {base : Nat} {e : TypeId} {z : Value} {size bytes : Nat} (hE : EI P e z size bytes) (ht : P.underlying t = some (.slice e)) (hzs : z.cells.size = size) (hsz : 0 < size)
   {v : Value} {n : Nat} {xs : List Value} (hs : a.eval s = v) (hown : w.ownsRow base e size v n xs)
   {cs : Array Value} {te : TypeId} {gx : Nat} (hx : a.eval x = .slice (some ⟨gx, 0, none⟩) 1 1) (hgx : gx = w.heap.size) (hl : cs.size = size) (h1 : ∀ u ∈ cs.toList, u.oneCell' = true)
   (hb63 : n + 1 <= maxLen) (hbytes : (n + 1) * bytes <= 140737488355328) (hbase : base <= w.heap.size)
   (h : ∀ v' w', w'.ownsRow base e size v' (n + 1) (xs ++ cs.toList) -> w.grownBy w' v.ownBlock -> Below base w w' -> (v'.ownBlock = v.ownBlock \/ ∃ g, v'.ownBlock = some g /\ w.heap.size <= g) -> K (a.put o.dst v') w') :
   if Region.wanted o (yielded ops a.tmps) = true then Oper.wp P o a (w.alloc (.cells cs te)) K Q else E := by
 have hw : Region.wanted o (yielded ops a.tmps) = true := by simp [Region.wanted, hgd]
 rw [if_pos hw]
 obtain ⟨i, hi, hz0, hz1, hz2⟩ := hE
 subst hgx
 have hcell : ∀ j u, cs.toList[j]? = some u -> (w.alloc (.cells cs te)).cell? ((⟨w.heap.size, 0, none⟩ : Addr).add j) = some u := by
   intro j u hu
   have e1 : ((⟨w.heap.size, 0, none⟩ : Addr).add j) = ⟨w.heap.size, j, none⟩ := by rw [Addr.add_lit]; simp
   rw [e1, (Blk.new w te cs).cell j]
   simpa using hu
 obtain ⟨v', w', hrun, h2, h3, h4, h5⟩ := run_append_own_at (P := P) (w.alloc (.cells cs te)) base t o.type e i z size bytes ht hi hz0 hz1 hz2 hzs hsz v n xs (hown.alloc _) ⟨w.heap.size, 0, none⟩ 1 1 cs.toList (by simp [hl]) hcell h1 hb63 hbytes (by simp; omega)
 have hg : w.grownBy w' v.ownBlock := (World.grownBy_alloc w _ _).trans h3
 unfold Oper.wp execOp
 simp only [ho, resolve, invoke, builtin, Sem.run_bind, Sem.run_pure, Result.andThen_ok, List.map_toArray, List.map_cons, List.map_nil, hs, hx, hrun]
 refine h v' w' h2 hg ((Below.refl _ _).grown hg hbase fun k hk => (hown.lt k hk).1) ?_
 rcases h5 with h5 | h5
 · exact .inl h5
 · exact .inr ⟨_, h5, by simp⟩
theorem kids_drop {X : Type} {P rest : List X} {f : Tp.Sub -> List X} {k : Nat} (subs : List Tp.Sub) (hlen : ∀ t ∈ subs, (f t).length = t.ids.length) (hP : P.drop k = subs.flatMap f ++ rest) (i : Nat) : P.drop (k + (Tp.ids_ (subs.take i)).length) = (subs.drop i).flatMap f ++ rest := by
 have hl : ((subs.take i).flatMap f).length = (Tp.ids_ (subs.take i)).length := by
   have key : ∀ l : List Tp.Sub, (∀ t ∈ l, t ∈ subs) -> (l.flatMap f).length = (Tp.ids_ l).length := fun l => by
     induction l with
     | nil => intro _; rfl
     | cons t l ih =>
       intro h
       rw [Tp.ids_cons, List.flatMap_cons, List.length_append, List.length_append, hlen t (h t List.mem_cons_self), ih fun u hu => h u (List.mem_cons_of_mem _ hu)]
   exact key _ fun t ht => List.mem_of_mem_take ht
 have e : subs.flatMap f = (subs.take i).flatMap f ++ (subs.drop i).flatMap f := by rw [<- List.flatMap_append, List.take_append_drop]
 rw [<- List.drop_drop, hP, e, List.append_assoc]
 exact List.drop_left' hl
def lowB (lo : Option En.Str) (keys : List En.Str) (i : Nat) : Option En.Str := if i = 0 then lo else keys[i - 1]?
def uppB (hi : Option En.Str) (keys : List En.Str) (i : Nat) : Option En.Str := (keys[i]?).or hi
theorem chain_bounds {Q : Tp.SubP} {hi : Option En.Str} : ∀ {subs : List Tp.Sub} {keys : List En.Str} {lo : Option En.Str} {i : Nat} (h : i < subs.length), Tp.Chain Q lo hi subs keys -> Q (lowB lo keys i) (uppB hi keys i) subs[i]
 | [], _, _, _, h, _ => absurd h (by simp)
 | [s], [], lo, 0, _, hc => hc
 | [s], [], lo, i + 1, h, _ => absurd h (by simp)
 | [s], k :: ks, lo, i, h, hc => (hc.2 : False).elim
 | s :: t :: r, [], lo, i, h, hc => (hc : False).elim
 | s :: t :: r, k :: ks, lo, 0, _, hc => hc.1
 | s :: t :: r, k :: ks, lo, i + 1, h, hc => by
   have ih := chain_bounds (i := i) (by simpa using h) hc.2
   have e1 : lowB lo (k :: ks) (i + 1) = lowB (some k) ks i := by
     unfold lowB
     rw [if_neg (by omega)]
     cases i with
     | zero => rfl
     | succ i => rw [if_neg (by omega)]; rfl
   have e2 : uppB hi (k :: ks) (i + 1) = uppB hi ks i := rfl
   rw [e1, e2]
   exact ih
theorem rnright_nl {B : Nat} {W : World} {x : RawPg} {n : Nd.Node} (h : NL B W x n) (hB : B <= W.heap.size) (hf : Nd.fits n = true) :
   Calls Tryz.prog 128 #[nodeV x.leaf x.ae x.ne x.ce x.ai x.ni x.ci x.ay x.ny x.cy] W fun e w' => e = .returned (.bool true) /\ Below W.heap.size W w' := by
 obtain ⟨h1, h2, h3, h4, h5, h6, h7⟩ := h
 have hr := (Tp.fits_iff.1 hf).1
 have hnb := fits_nb hf
 obtain ⟨leaf, ents, kids, keys⟩ := n
 simp only at h1 h2 h3 h4 h5 h6 h7
 rw [h1, h2, h3, h4]
 cases leaf with
 | true =>
   obtain ⟨r1, rfl, rfl⟩ := Nd.right_leaf.1 hr
   exact rnright_leaf x.ae x.ai x.ay x.ce x.ci x.cy ents r1 W (h5.more hB) hnb.e
 | false =>
   obtain ⟨rfl, r2, r3, r4⟩ := Nd.right_inner.1 hr
   exact rnright_inner x.ae x.ai x.ay x.ce x.ci x.cy kids keys r2 r3 r4 W (h6.more hB) (h7.more hB) hnb.i
theorem rnsize_nl {B : Nat} {W : World} {x : RawPg} {n : Nd.Node} (h : NL B W x n) (hB : B <= W.heap.size) (hf : Nd.fits n = true) :
   Calls Tryz.prog 129 #[nodeV x.leaf x.ae x.ne x.ce x.ai x.ni x.ci x.ay x.ny x.cy] W fun e w' => e = .returned (.int .i64 ((Nd.size n : Nat) : Int)) /\ Below W.heap.size W w' := by
 obtain ⟨h1, h2, h3, h4, h5, h6, h7⟩ := h
 have hnb := fits_nb hf
 obtain ⟨leaf, ents, kids, keys⟩ := n
 simp only at h1 h2 h3 h4 h5 h6 h7
 rw [h1, h2, h3, h4]
 cases leaf with
 | true => exact rnsize_leaf x.ae x.ai x.ay x.ce x.ci x.cy _ _ ents W (h5.more hB) hnb.e hnb.es
 | false => exact rnsize_inner x.ae x.ai x.ay x.ce x.ci x.cy _ _ keys W (h7.more hB) hnb.k hnb.ks
theorem part_leaf {v : Int -> Option Nd.Node} (g : Nat) (LA : Option Addr) (lc : Nat) (xs : List RawPg) (P : List (Int × Nat × Nd.Node)) (hxs : xs.length <= 100000) (h : Nat) (h0 : h = 0) (d k : Nat) (lo hi : Option En.Str) (s : Tp.Sub) (leaf : Int) (o : List Ent) (Y : Option Nat) (rest : List (Int × Nat × Nd.Node)) (w : World)
   (ht : Tp.Tr v h lo hi s) (hhi : ∀ b, hi = some b -> 0 < b.size) (hP : P.drop k = Tp.pgL v h d s.id ++ rest) (hd : d + h <= 23) (hl : leaf = -1 \/ leaf = ((d + h : Nat) : Int)) (ho : o.length + s.es.length <= 100000) (hpg : PgL g LA xs P w) (hw : WkAt g LA xs.length lc (k : Nat) leaf o Y w) :
   Calls Tryz.prog 83 #[.pointer (some ⟨g, 0, none⟩), .string (bs lo), .string (bs hi), .int .i64 (d : Nat)] w (RpEnd g LA xs.length lc ((k + s.ids.length : Nat) : Int) ((d + h : Nat) : Int) (o ++ s.es) Y w) := by
 obtain ⟨n, hv, hfit, hlf⟩ := Tp.tr_node ht
 have hpl : ∃ more, Tp.pgL v h d s.id = (s.id, d, n) :: more := by
   cases h <;> rw [Tp.pgL, hv] <;> exact ⟨_, rfl⟩
 obtain ⟨more, hpl⟩ := hpl
 have hkP : k < P.length := by
   have := congrArg List.length hP
   rw [hpl] at this
   simp at this
   omega
 have hPk : P[k] = (s.id, d, n) := by
   have h := List.drop_eq_getElem_cons hkP
   rw [hP, hpl] at h
   injection h with h _
   exact h.symm
 have hkx : k < xs.length := by have := hpg.len; omega
 obtain ⟨p1, p2, hnl⟩ := hpg.at_ k hkx hkP
 rw [hPk] at p1 p2 hnl
 simp only at p1 p2
 obtain ⟨b, off, rfl, hb, c0, c1, c2, c3, c4, c5⟩ := hpg.ls.pg hkx
 generalize xs[k] = x at *
 have HNL := Lib.hid hnl
 obtain ⟨oA, oc, hB, hrow, hY⟩ := hw
 have m0 := hB.cell 0
 have m1 := hB.cell 1
 have m2 := hB.cell 2
 have m3 := hB.cell 3
 have ml := hB.lt
 have hki : ¬ (xs.length : Int) <= (k : Nat) := by omega
 have hdi : ¬ 23 < (d : Int) := by omega
 have hkk : (k : Int) < (xs.length : Nat) := by omega
 have hwk : IntKind.i64.wrap ((k : Int) + 1) = (k : Int) + 1 := IntWalk.i64_in _ (by omega)
 have HHI := Lib.hid hhi
 have HPP := Lib.hid hP
 have HTR := Lib.hid ht
 have HFIT := Lib.hid hfit
 have HYY := Lib.hid hY
 have HLEAF := Lib.hid hl
 have HPG := Lib.hid hpg
 have hsz := (Tp.fits_iff.1 hfit).2
 have HLF := Lib.hid hlf
 have HV := Lib.hid hv
 obtain ⟨kE, hkE⟩ : ∃ x : Int, x = ((k + s.ids.length : Nat) : Int) := ⟨_, rfl⟩
 obtain ⟨dE, hdE⟩ : ∃ x : Int, x = ((d + h : Nat) : Int) := ⟨_, rfl⟩
 obtain ⟨los, hlos⟩ : ∃ x, x = bs lo := ⟨_, rfl⟩
 obtain ⟨his, hhis⟩ : ∃ x, x = bs hi := ⟨_, rfl⟩
 rw [<- hkE, <- hdE, <- hlos, <- hhis]
 have HLS := Lib.hid hlos
 have HHS := Lib.hid hhis
 have HKE := Lib.hid hkE
 have HDE := Lib.hid hdE
 clear hP hPk hhi hv ht hfit hnl hpl hY hl hlf hkP hkE hdE hlos hhis
 go_enter Tryz.func83, Tryz.ntmps83
 go_wp2
 go_quiet (fail)
 have hbz : b < w.heap.size := Nat.lt_trans hb ml
 have hd1 := below_drewN (Below.refl w.heap.size w) nq
 have hB1 := hB.below hd1 ml
 have hr1 := hrow.below hd1
 have HP1 := Lib.hid (hpg.below (hd1.mono (Nat.le_of_lt ml)))
 have HN1 := Lib.hid (HNL.out.below (hd1.mono (Nat.le_of_lt ml)))
 have c0 := (hd1.cell (p := ⟨b, off + k * 6, none⟩) hbz).trans c0
 have c1 := (hd1.cell (p := ⟨b, off + k * 6 + 1, none⟩) hbz).trans c1
 have c2 := (hd1.cell (p := ⟨b, off + k * 6 + 2, none⟩) hbz).trans c2
 have c3 := (hd1.cell (p := ⟨b, off + k * 6 + 3, none⟩) hbz).trans c3
 have c4 := (hd1.cell (p := ⟨b, off + k * 6 + 4, none⟩) hbz).trans c4
 have c5 := (hd1.cell (p := ⟨b, off + k * 6 + 5, none⟩) hbz).trans c5
 have hbz1 : b < (w.drewN nq).heap.size := Nat.lt_of_lt_of_le hbz hd1.size
 have HD1 := Lib.hid hd1
 clear hpg hrow hB m0 m1 m2 m3 HNL hd1
 go_wp2
 generalize w.drewN nq = w1 at *
 have m0 := hB1.cell 0
 have m1 := hB1.cell 1
 have m2 := hB1.cell 2
 have m3 := hB1.cell 3
 have ml1 := hB1.lt
 go_region
 have hb2 : Below w1.heap.size w1 (w1.alloc (.cells #[.int .i64 s.id, .int .i64 (d : Nat), .bool x.leaf, .slice x.ae x.ne x.ce, .slice x.ai x.ni x.ci, .slice x.ay x.ny x.cy] 95)).drew := ((Below.refl _ w1).alloc (Nat.le_refl _) _).drew
 have hBp : Blk (w1.alloc (.cells #[.int .i64 s.id, .int .i64 (d : Nat), .bool x.leaf, .slice x.ae x.ne x.ce, .slice x.ai x.ni x.ci, .slice x.ay x.ny x.cy] 95)).drew w1.heap.size 95 #[.int .i64 s.id, .int .i64 (d : Nat), .bool x.leaf, .slice x.ae x.ne x.ce, .slice x.ai x.ni x.ci, .slice x.ay x.ny x.cy] := Blk.new w1 _ _
 have hB2 := hB1.below hb2 ml1
 have hr2 := hr1.below hb2
 have HP2 := Lib.hid (HP1.out.below (hb2.mono (Nat.le_of_lt ml1)))
 have HN2 := Lib.hid (HN1.out.below (hb2.mono (Nat.le_of_lt ml1)))
 have HD2 := Lib.hid (HD1.out.trans (hb2.mono HD1.out.size))
 have hz1 := HD1.out.size
 clear hB1 hr1 HP1 HN1 m0 m1 m2 m3 c0 c1 c2 c3 c4 c5 HD1 hb2
 generalize (w1.alloc (.cells #[.int .i64 s.id, .int .i64 (d : Nat), .bool x.leaf, .slice x.ae x.ne x.ce, .slice x.ai x.ni x.ci, .slice x.ay x.ny x.cy] 95)).drew = w2 at *
 generalize w1.heap.size = pb at *
 have hpg2 : pb ≠ g := by omega
 have m1 : w2.cell? ⟨g, 1, none⟩ = some (.int .i64 (k : Nat)) := hB2.cell 1
 have mf := hB2.frozen 1
 have ml2 := hB2.lt
 have p0 := hBp.cell 0
 have p1' := hBp.cell 1
 have p2' := hBp.cell 2
 have p3 := hBp.cell 3
 have p4 := hBp.cell 4
 have p5 := hBp.cell 5
 have pl := hBp.lt
 have hS3 : Below g w2 (w2.setCell ⟨g, 1, none⟩ (.int .i64 ((k : Int) + 1))) := (Below.refl g w2).setCell (p := ⟨g, 1, none⟩) (Nat.le_refl g) _
 have hF3 : Fr (fun b => b = g) w2 (w2.setCell ⟨g, 1, none⟩ (.int .i64 ((k : Int) + 1))) := Fr.set_ (S := fun b => b = g) rfl _
 have HRI := Lib.hid (rnright_nl (HN2.out.below hS3) (by rw [World.size_setCell]; omega) HFIT.out)
 have HB3 := Lib.hid (hB2.set_ 1 (.int .i64 ((k : Int) + 1)))
 have HBp3 := Lib.hid (hF3.blk hBp hpg2)
 have HR3 := Lib.hid (LO.fr hr2 hF3 (fun b e => by omega))
 have HP3 := Lib.hid (HP2.out.below hS3)
 have HN3 := Lib.hid (HN2.out.below hS3)
 have HFr3 := Lib.hid ((Fr.of_below HD2.out : Fr (fun b => b = g \/ Y = some b) w w2).trans (hF3.more fun _ => .inl))
 clear hS3 hF3 HP2 HN2 hr2
 go_wp2_with fail
 refine HRI.out.mono ?_
 rintro e w4 ⟨rfl, b4⟩
 have hz4 := b4.size
 simp only [World.size_setCell] at hz4
 have hBp4 := HBp3.out.below b4 HBp3.out.lt
 have p0 := hBp4.cell 0
 have p1' := hBp4.cell 1
 have p2' := hBp4.cell 2
 have p3 := hBp4.cell 3
 have p4 := hBp4.cell 4
 have p5 := hBp4.cell 5
 have pl := hBp4.lt
 have hg4 : g <= (w2.setCell ⟨g, 1, none⟩ (.int .i64 ((k : Int) + 1))).heap.size := by rw [World.size_setCell]; omega
 have HP4 := Lib.hid (HP3.out.below (b4.mono hg4))
 have HN4 := Lib.hid (HN3.out.below (b4.mono hg4))
 have HB4 := Lib.hid (HB3.out.below b4 HB3.out.lt)
 have HR4 := Lib.hid (HR3.out.below b4)
 have HFr4 := Lib.hid (HFr3.out.trans (.of_below b4))
 have HBp4 := Lib.hid hBp4
 have HSZ := Lib.hid (rnsize_nl HN4.out (by omega) HFIT.out)
 clear b4 hBp hBp4 hB2 HRI HB3 HBp3 HR3 HP3 HN3 HFr3 m1 mf hg4
 go_wp2_with fail
 refine HSZ.out.mono ?_
 rintro e w5 ⟨rfl, b5⟩
 have hz5 := b5.size
 have hs240 : ¬ (240 : Int) < (Nd.size n : Nat) := by omega
 generalize Nd.size n = zn at *
 have hBp5 := HBp4.out.below b5 HBp4.out.lt
 have HP5 := Lib.hid (HP4.out.below (b5.mono (by omega)))
 have HN5 := Lib.hid (HN4.out.below (b5.mono (by omega)))
 have hB5 := HB4.out.below b5 HB4.out.lt
 have HR5 := Lib.hid (HR4.out.below b5)
 have HFr5 := Lib.hid (HFr4.out.trans (.of_below b5))
 have p2' := hBp5.cell 2
 have p3 := hBp5.cell 3
 have p4 := hBp5.cell 4
 have p5 := hBp5.cell 5
 have pl := hBp5.lt
 have g2 : w5.cell? ⟨g, 2, none⟩ = some (.int .i64 leaf) := hB5.cell 2
 have g2f := hB5.frozen 2
 have gl := hB5.lt
 have HB5 := Lib.hid hB5
 have HBp5 := Lib.hid hBp5
 clear b5 hB5 hBp5 HP4 HN4 HB4 HR4 HFr4 HBp4 HSZ p0 p1'
 subst h0
 obtain ⟨t1, t2, t3, t4, t5, t6⟩ := HTR.out
 have hn : n = Nd.mkLeaf s.es := by have := HV.out; rw [t1] at this; injection this with this; exact this.symm
 subst hn
 have HID : Hid (s.ids.length = 1) := Lib.hid (by rw [t2]; rfl)
 have HIN := Lib.hid t5
 have hsne := t4
 clear t1 t2 t3 t4 t5 t6
 obtain ⟨n1, n2, n3, n4, n5, n6, n7⟩ := HN5.out
 have hxl : x.leaf = true := n1
 have hxe : x.ne = s.es.length := n2
 have HNE := Lib.hid n5
 rw [hxl] at p2'
 rw [hxe] at p3
 obtain ⟨ne, hne⟩ : ∃ m, m = s.es.length := ⟨_, rfl⟩
 rw [<- hne] at p3
 have HXE := Lib.hid (hxe.trans hne.symm)
 have HLN := Lib.hid hne
 have hne0 : 0 < ne := by rw [hne]; exact List.length_pos_iff.2 hsne
 have hno : o.length + ne <= 100000 := by rw [hne]; exact ho
 clear n1 n2 n3 n4 n5 n6 n7 HN5 hxl hxe hne hsne ho
 go_upto_if 72 with fail
 go_cut [] from 68 to 76 (fun wx => Blk wx g 150 #[.slice (some ⟨b, off, none⟩) xs.length lc, .int .i64 ((k : Int) + 1), .int .i64 (d : Nat), .slice oA o.length oc] /\ Fr (fun b => b = g) w5 wx)
 case first =>
   rcases HLEAF.out with hl | hl
   · subst hl
     go_wp2
     go_meet
     exact ⟨HB5.out.set_ 2 _, Fr.set_ (S := fun b => b = g) rfl _⟩
   · have hl2 : leaf = (d : Int) := by rw [hl]; rfl
     subst hl2
     have hdn : ¬ (d : Int) < 0 := by omega
     clear hl
     go_wp2
     go_meet
     exact ⟨HB5.out, Fr.refl _⟩
 case rest =>
   obtain ⟨hBc, hfc⟩ := hcut
   have hzc := hfc.size
   have hlow : Below g w5 wc := hfc.low (by omega) (fun k e => by omega)
   have HBc := Lib.hid hBc
   have HBpc := Lib.hid (hfc.blk HBp5.out hpg2)
   have HRc := Lib.hid (LO.fr HR5.out hfc (fun b e => by omega))
   have HNEc := Lib.hid (HNE.out.below hlow)
   have HFrc := Lib.hid (HFr5.out.trans (hfc.more fun _ => .inl))
   have HOB : Hid (∀ b, (Value.slice oA o.length oc).ownBlock = some b -> Y = some b \/ w.heap.size <= b) := Lib.hid fun b e => .inl (HYY.out.trans e)
   clear hBc hfc hlow HB5 HBp5 HR5 HNE HFr5 p2' p3 p4 p5 pl g2 g2f gl hs240 HLEAF
   go_wp2
   go_loopg [11] ne (fun gg s11 wr => ∃ (j : Nat) (oA' : Option Addr) (oc' : Nat) (o' : List Ent), s11 = .int .i64 (j : Nat) /\ j <= ne /\ ne - j <= gg /\ Hid (o' = o ++ s.es.take j) /\ o'.length <= o.length + j /\ Hid (Blk wr g 150 #[.slice (some ⟨b, off, none⟩) xs.length lc, .int .i64 ((k : Int) + 1), .int .i64 (d : Nat), .slice oA' o'.length oc']) /\ Hid (LO entE 38 wr (g + 1) (.slice oA' o'.length oc') o') /\ Hid (∀ b, (Value.slice oA' o'.length oc').ownBlock = some b -> Y = some b \/ w.heap.size <= b) /\ Hid (Fr (fun b => b = g \/ Y = some b) w wr) /\ Hid (Blk wr pb 95 #[.int .i64 s.id, .int .i64 (d : Nat), .bool x.leaf, .slice x.ae x.ne x.ce, .slice x.ai x.ni x.ci, .slice x.ay x.ny x.cy]) /\ Hid (LS entE wr g x.ae s.es))
   case atStart => exact ⟨0, oA, oc, o, rfl, Nat.zero_le _, by omega, Lib.hid (by simp), by omega, HBc, HRc, HOB, HFrc, HBpc, HNEc⟩
   case round =>
     obtain ⟨j, oA', oc', o', rfl, hjl, hjg, HO, hol, HBr, HLr, HOr, HFrr, HBpr, HNEr⟩ := hrel
     have hpr := HBpr.out.cell 3
     have hpl := HBpr.out.lt
     have p3 : wr.cell? ⟨pb, 3, none⟩ = some (.slice x.ae ne x.ce) := by rw [hpr, HXE.out]; rfl
     have hgl := HBr.out.lt
     clear hpr
     by_cases hj : j < ne
     · have hji : (j : Int) < (ne : Nat) := by omega
       have hwj : IntKind.i64.wrap ((j : Int) + 1) = (j : Int) + 1 := IntWalk.i64_in _ (by omega)
       have hj2 : j < s.es.length := by rw [<- HLN.out]; exact hj
       obtain ⟨bb, oo, hae, hbb, q0, q1⟩ := HNEr.out.ent hj2
       obtain ⟨i1, i2⟩ := HIN.out _ (List.getElem_mem hj2)
       have hy : s.es.take (j + 1) = s.es.take j ++ [s.es[j]] := List.take_succ_eq_append_getElem hj2
       have HTK := Lib.hid hy
       clear hy
       generalize s.es[j] = y at *
       have e1 : Op.bytesLess y.1.toList los.toList = false := by rw [HLS.out]; exact bs_lo i1
       have hx : his.toList = [] \/ (¬ his.toList = [] /\ Op.bytesLess y.1.toList his.toList = true) := by
         rw [HHS.out]
         cases hi with
         | none => left; show (⟨#[]⟩ : ByteArray).toList = []; rw [Go.Lib.toList_data]
         | some b' =>
           right
           exact ⟨(Tp.key_ne (HHI.out b' rfl)).2.2, Tp.ltHi_some.1 i2⟩
       rw [hae] at p3
       clear hae
       have hbz : bb < wr.heap.size := by omega
       have q0 : wr.cell? ⟨bb, oo + j * 2, none⟩ = some (.string y.1) := q0
       have q1 : wr.cell? ⟨bb, oo + j * 2 + 1, none⟩ = some (.string y.2) := q1
       have hbA : Below wr.heap.size wr (wr.alloc (.cells #[.string y.1, .string y.2] 38)).drew := ((Below.refl _ wr).alloc (Nat.le_refl _) _).drew
       have hBW := HBr.out.below hbA hgl
       have hxb : Blk (wr.alloc (.cells #[.string y.1, .string y.2] 38)).drew wr.heap.size 38 #[.string y.1, .string y.2] := Blk.new wr _ _
       have hLW := HLr.out.below hbA
       have hown3 := hLW.raw rfl (s := 2) rfl
       have hb3 : g + 1 <= (wr.alloc (.cells #[.string y.1, .string y.2] 38)).drew.heap.size := hBW.lt
       have w3c : (wr.alloc (.cells #[.string y.1, .string y.2] 38)).drew.cell? ⟨g, 3, none⟩ = some (.slice oA' o'.length oc') := hBW.cell 3
       have wx0 : (wr.alloc (.cells #[.string y.1, .string y.2] 38)).drew.cell? ⟨wr.heap.size, 0, none⟩ = some (.string y.1) := hxb.cell 0
       have wx1 : (wr.alloc (.cells #[.string y.1, .string y.2] 38)).drew.cell? ⟨wr.heap.size, 1, none⟩ = some (.string y.2) := hxb.cell 1
       have wgl := hBW.lt
       have w3r : wr.cell? ⟨g, 3, none⟩ = some (.slice oA' o'.length oc') := HBr.out.cell 3
       have w3f := HBr.out.frozen 3
       have wxl := hxb.lt
       have HTOLD : Hid (∀ v' w6, w6.ownsRow (g + 1) 38 2 v' (o'.length + 1) (entE.cells o' ++ #[Value.string y.1, Value.string y.2].toList) -> (wr.alloc (.cells #[.string y.1, .string y.2] 38)).drew.grownBy w6 (Value.slice oA' o'.length oc').ownBlock -> (v'.ownBlock = (Value.slice oA' o'.length oc').ownBlock \/ ∃ g', v'.ownBlock = some g' /\ (wr.alloc (.cells #[.string y.1, .string y.2] 38)).drew.heap.size <= g') -> Below (g + 1) (wr.alloc (.cells #[.string y.1, .string y.2] 38)).drew w6 ->
           Hid (Blk (w6.setCell ⟨g, 3, none⟩ v') g 150 #[.slice (some ⟨b, off, none⟩) xs.length lc, .int .i64 ((k : Int) + 1), .int .i64 (d : Nat), v'] /\ LO entE 38 (w6.setCell ⟨g, 3, none⟩ v') (g + 1) v' (o' ++ [y]) /\ (∀ b, v'.ownBlock = some b -> Y = some b \/ w.heap.size <= b) /\ Fr (fun b => b = g \/ Y = some b) w (w6.setCell ⟨g, 3, none⟩ v') /\ Blk (w6.setCell ⟨g, 3, none⟩ v') pb 95 #[.int .i64 s.id, .int .i64 (d : Nat), .bool x.leaf, .slice x.ae x.ne x.ce, .slice x.ai x.ni x.ci, .slice x.ay x.ny x.cy] /\ LS entE (w6.setCell ⟨g, 3, none⟩ v') g x.ae s.es) /\ w6.cell? ⟨g, 3, none⟩ = some (.slice oA' o'.length oc') /\ w6.frozen? ⟨g, 3, none⟩ = false /\ g < w6.heap.size) := by
         refine Lib.hid fun v' w6 hown' hg hob hbel => ?_
         have hB6 := hBW.grown hg (fun e => own_blk_ne hown3 hBW (by decide) e.symm)
         have hBpW := HBpr.out.below hbA hpl
         have hBp6 := hBpW.grown hg (fun e => own_blk_ne hown3 hBpW (by decide) e.symm)
         have hf7 : Fr (fun b => b = g) w6 (w6.setCell ⟨g, 3, none⟩ v') := Fr.set_ (S := fun b => b = g) rfl v'
         have hl7 : Below g wr (w6.setCell ⟨g, 3, none⟩ v') := ((hbA.mono (Nat.le_of_lt hgl)).trans (hbel.mono (Nat.le_succ g))).setCell (p := ⟨g, 3, none⟩) (Nat.le_refl g) v'
         have hob2 : ∀ b, v'.ownBlock = some b -> Y = some b \/ w.heap.size <= b := fun b e => by
           rcases hob with h1 | ⟨g', h1, h2⟩
           · exact HOr.out b (by rw [<- h1]; exact e)
           · rw [h1] at e; injection e with e; subst e
             exact .inr (Nat.le_trans HFrr.out.size (Nat.le_trans hbA.size h2))
         refine ⟨Lib.hid ⟨hB6.set_ 3 v', LO.fr (LO.snoc rfl rfl rfl hown') hf7 (fun b e => by omega), hob2, ?_, hf7.blk hBp6 hpg2, HNEr.out.below hl7⟩, hB6.cell 3, hB6.frozen 3, hB6.lt⟩
         refine ((HFrr.out.trans (.of_below hbA)).go (Fr.of_grown hg) (fun b e => ?_)).trans (hf7.more fun _ => .inl)
         rcases HOr.out b e with h1 | h1
         · exact .inl (.inr h1)
         · exact .inr h1
       clear hBW hxb hLW hbA
       rcases hx with f1 | ⟨f1, f2⟩
       · have f3 : his.toList.isEmpty = true := by simpa using f1
         go_wp2
         go_region_law (first | (refine step_app2 rfl (.tmp 109) (.tmp 111) 32 rfl eiEnt Tryz.underlying32 rfl (by decide) rfl hown3 rfl (by simp) rfl (by simp [Value.oneCell']) (by unfold maxLen; omega) (by omega) hb3 ?_; intro v' w6 hown' hgrow hbel hob; obtain ⟨HT, y1, y2, y3⟩ := HTOLD.out v' w6 hown' hgrow hob hbel; obtain ⟨A6, c6, rfl⟩ := own_form hown'))
         all_goals
           have HF := Lib.hid HT.out
           clear HT HTOLD hown' hgrow hbel hob y1 y2 y3 hown3
           go_wp2
           go_roundg (ne - (j + 1))
           case measure => omega
           case rel =>
             have hlen : (o' ++ [y]).length = o'.length + 1 := by simp
             obtain ⟨z1, z2, z3, z4, z5, z6⟩ := HF.out
             exact ⟨j + 1, A6, c6, o' ++ [y], by go_num, by omega, Nat.le_refl _, Lib.hid (by rw [HTK.out, <- List.append_assoc, <- HO.out]), by omega, Lib.hid (by rw [hlen]; exact z1), Lib.hid (by rw [hlen]; exact z2), Lib.hid (by rw [hlen]; exact z3), Lib.hid z4, Lib.hid z5, Lib.hid z6⟩
       · have f3 : his.toList.isEmpty = false := by simpa using f1
         go_wp2
         go_region_law (first | (refine step_app2 rfl (.tmp 109) (.tmp 111) 32 rfl eiEnt Tryz.underlying32 rfl (by decide) rfl hown3 rfl (by simp) rfl (by simp [Value.oneCell']) (by unfold maxLen; omega) (by omega) hb3 ?_; intro v' w6 hown' hgrow hbel hob; obtain ⟨HT, y1, y2, y3⟩ := HTOLD.out v' w6 hown' hgrow hob hbel; obtain ⟨A6, c6, rfl⟩ := own_form hown'))
         all_goals
           have HF := Lib.hid HT.out
           clear HT HTOLD hown' hgrow hbel hob y1 y2 y3 hown3
           go_wp2
           go_roundg (ne - (j + 1))
           case measure => omega
           case rel =>
             have hlen : (o' ++ [y]).length = o'.length + 1 := by simp
             obtain ⟨z1, z2, z3, z4, z5, z6⟩ := HF.out
             exact ⟨j + 1, A6, c6, o' ++ [y], by go_num, by omega, Nat.le_refl _, Lib.hid (by rw [HTK.out, <- List.append_assoc, <- HO.out]), by omega, Lib.hid (by rw [hlen]; exact z1), Lib.hid (by rw [hlen]; exact z2), Lib.hid (by rw [hlen]; exact z3), Lib.hid z4, Lib.hid z5, Lib.hid z6⟩
     · obtain rfl : j = ne := by omega
       have hji : ¬ (j : Int) < (j : Nat) := by omega
       have h0i : (0 : Int) < (j : Nat) := by omega
       have g2 : wr.cell? ⟨g, 2, none⟩ = some (.int .i64 (d : Nat)) := HBr.out.cell 2
       have hoo : o' = o ++ s.es := by rw [HO.out, HLN.out, List.take_length]
       have HEND := Lib.hid (show RpEnd g (some ⟨b, off, none⟩) xs.length lc kE dE (o ++ s.es) Y w (.returned (.bool true)) wr from by
         refine ⟨rfl, ⟨_, ⟨oA', oc', ?_, ?_, rfl⟩, ?_⟩, HFrr.out⟩
         · have e1 : kE = (k : Int) + 1 := by rw [HKE.out, HID.out]; omega
           have e2 : dE = (d : Nat) := by rw [HDE.out]; rfl
           rw [e1, e2, <- hoo]
           exact HBr.out
         · rw [<- hoo]; exact HLr.out
         · rw [<- hoo]; exact HOr.out)
       clear hoo HO hol HLr HOr HFrr HNEr HBr HBpr
       go_wp2
       go_ret
       exact HEND.out
end Go.Proofs.YtpfplojkiloldaaGreatDoor
