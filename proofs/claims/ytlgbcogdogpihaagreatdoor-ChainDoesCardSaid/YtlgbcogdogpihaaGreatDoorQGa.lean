/- Imports of all walks of this seat, under one name. Words for memory over any program: a slice that reads as a list, a block known whole, appends onto rows of the call's own, strings of owned bytes. The first parts are the guide's own lemmas to copy (extra-words). Lists of things of some cells in memory, over any encoding; and rows of the call's own. -/
import Derived.WalkKit
import Derived.WalkSpells
import Derived.WalkLawsBesides
import Derived.KernelRfl
import Derived.Lib.Hide
import Derived.BigQuiet
import Derived.Deep.QuietTactic
import Derived.Deep.Draws
import Derived.Deep.AppendLies
import Derived.Maps.AppendAt
import Derived.RegionTactic
import Derived.Lib.MinMax
import Derived.Test.YtlgbcogdogpihaaGreatDoorChecked

namespace Go.Proofs.YtlgbcogdogpihaaGreatDoor
open Go.RowKit
theorem block_of_add (a : Addr) (n : Nat) : (a.add n).block = a.block := by unfold Addr.add; split <;> rfl
theorem add_of_add (a : Addr) (i j : Nat) : (a.add i).add j = a.add (i + j) := by
  unfold Addr.add
  by_cases hi : i = 0 <;> by_cases hj : j = 0 <;> simp [hi, hj, Nat.add_assoc]

def Reads (w : World) (B size : Nat) (A : Option Addr) (n : Nat) (xs : List Value) : Prop :=
  xs.length = n * size ∧ (0 < n → ∃ ad, A = some ad ∧ ad.block < B ∧ ∀ j u, xs[j]? = some u → w.cell? (ad.add j) = some u)

section
variable {w w' : World} {B B' size n : Nat} {A : Option Addr} {xs : List Value}
theorem Reads.none_ : Reads w B size A 0 [] := ⟨by simp, fun h => absurd h (by omega)⟩
theorem Reads.at_ {k : Nat} (h : Reads w B 1 A n xs) (hk : k < n) : ∃ ad u, A = some ad ∧ ad.block < B ∧ xs[k]? = some u ∧ w.cell? (ad.add k) = some u := by
  obtain ⟨ad, e, hb, hc⟩ := h.2 (by omega)
  have hl : k < xs.length := by have := h.1; omega
  exact ⟨ad, xs[k], e, hb, List.getElem?_eq_getElem hl, hc k _ (List.getElem?_eq_getElem hl)⟩
theorem Reads.keep (h : Reads w B size A n xs) (hk : ∀ p : Addr, p.block < B → w'.cell? p = w.cell? p) : Reads w' B size A n xs :=
  ⟨h.1, fun hn => by
    obtain ⟨ad, e, hb, hc⟩ := h.2 hn
    exact ⟨ad, e, hb, fun j u hu => (hk _ (by rw [block_of_add]; exact hb)).trans (hc j u hu)⟩⟩
theorem Reads.more (h : Reads w B size A n xs) (hB : B ≤ B') : Reads w B' size A n xs :=
  ⟨h.1, fun hn => by
    obtain ⟨ad, e, hb, hc⟩ := h.2 hn
    exact ⟨ad, e, by omega, hc⟩⟩
theorem Reads.below (h : Reads w B size A n xs) (hb : Below B w w') : Reads w' B size A n xs := h.keep fun _ hp => hb.cell hp
theorem Reads.drew (h : Reads w B size A n xs) : Reads w.drew B size A n xs := h
theorem Reads.drewN (h : Reads w B size A n xs) (k : Nat) : Reads (w.drewN k) B size A n xs := h
theorem Reads.alloc (h : Reads w B size A n xs) (hB : B ≤ w.heap.size) (o : Obj) : Reads (w.alloc o) B size A n xs := h.keep fun p hp => World.cell?_alloc_lt w o p (by omega)
theorem Reads.setCell (h : Reads w B size A n xs) {p : Addr} (hB : B ≤ p.block) (u : Value) : Reads (w.setCell p u) B size A n xs :=
  h.keep fun q hq => World.cell?_setCell_other w p q u (fun e => by subst e; omega)
theorem Reads.grown (h : Reads w B size A n xs) {row : Option Nat} (hg : w.grownBy w' row) (hB : B ≤ w.heap.size) (hr : ∀ g, row = some g → B ≤ g) : Reads w' B size A n xs :=
  h.keep fun p hp => World.cell?_of_block (hg.block p.block (by omega) (fun e => by have := hr _ e.symm; omega))
theorem Reads.cut (h : Reads w B size A n xs) {k cap : Nat} (hk : k ≤ n) (hc : n ≤ cap) :
    Reads w B size (if cap = k then A else A.map (·.add (k * size))) (n - k) (xs.drop (k * size)) := by
  refine ⟨by rw [List.length_drop, h.1, Nat.sub_mul], fun hn => ?_⟩
  obtain ⟨ad, rfl, hb, hcell⟩ := h.2 (by omega)
  rw [if_neg (by omega)]
  refine ⟨ad.add (k * size), rfl, by rw [block_of_add]; exact hb, fun j u hu => ?_⟩
  rw [add_of_add]
  exact hcell _ u (by rw [← hu, List.getElem?_drop])
theorem Reads.of_own {base : Nat} {e : TypeId} {c : Nat} (h : w.ownsRow base e size (.slice A n c) n xs) : Reads w w.heap.size size A n xs := by
  refine ⟨h.1, fun hn => ?_⟩
  obtain ⟨g, cap, hv, _, hlt⟩ := h.form hn
  have hA : A = some ⟨g, 0, none⟩ := by injection hv
  subst hA
  exact ⟨_, rfl, hlt, h.cells (g := g) rfl⟩
end
def Blk (w : World) (g : Nat) (t : TypeId) (cs : Array Value) : Prop := w.heap[g]? = some (.cells cs t (0, 0))

section
variable {w w' : World} {g : Nat} {t : TypeId} {cs : Array Value}
theorem Blk.lt (h : Blk w g t cs) : g < w.heap.size := by
  rcases Nat.lt_or_ge g w.heap.size with hlt | hge
  · exact hlt
  · unfold Blk at h; rw [Array.getElem?_eq_none hge] at h; cases h
theorem Blk.cell (h : Blk w g t cs) (i : Nat) : w.cell? ⟨g, i, none⟩ = cs[i]? := cell_of_row w g i cs t (0, 0) h
theorem Blk.frozen (h : Blk w g t cs) (i : Nat) : w.frozen? ⟨g, i, none⟩ = false := by
  unfold Blk at h
  simp [World.frozen?, h]
theorem Blk.new (w : World) (t : TypeId) (cs : Array Value) : Blk (w.alloc (.cells cs t)) w.heap.size t cs := heap_alloc_new w _
theorem Blk.drew (h : Blk w g t cs) : Blk w.drew g t cs := h
theorem Blk.drewN (h : Blk w g t cs) (n : Nat) : Blk (w.drewN n) g t cs := h
theorem Blk.alloc (h : Blk w g t cs) (o : Obj) : Blk (w.alloc o) g t cs := (Below.heap_alloc w o g h.lt).trans h
theorem Blk.set_ (h : Blk w g t cs) (i : Nat) (u : Value) : Blk (w.setCell ⟨g, i, none⟩ u) g t (cs.setIfInBounds i u) := by
  unfold Blk at h ⊢
  simp [World.setCell, Array.getElem?_modify, h]
theorem Blk.far (h : Blk w g t cs) {p : Addr} (hp : g ≠ p.block) (u : Value) : Blk (w.setCell p u) g t cs := (Below.heap_setCell w p u g hp).trans h
theorem Blk.below {B : Nat} (h : Blk w g t cs) (hb : Below B w w') (hg : g < B) : Blk w' g t cs := (hb.block g hg).trans h
theorem Blk.grown {row : Option Nat} (h : Blk w g t cs) (hb : w.grownBy w' row) (hg : some g ≠ row) : Blk w' g t cs := (hb.block g h.lt hg).trans h
theorem Blk.ne_ {g' : Nat} {t' : TypeId} {cs' : Array Value} (h : Blk w g t cs) (h' : Blk w g' t' cs') (hne : t ≠ t') : g ≠ g' := by
  rintro rfl
  unfold Blk at h h'
  rw [h] at h'
  injection h' with h'
  injection h' with _ ht
  exact hne ht
theorem own_blk_ne {base : Nat} {e : TypeId} {size n : Nat} {v : Value} {xs : List Value} (h : w.ownsRow base e size v n xs) (hg : Blk w g t cs) (hne : e ≠ t) : v.ownBlock ≠ some g := by
  rcases h.2 with ⟨rfl, _⟩ | ⟨g', cap, cur, rfl, _, hh, _⟩
  · simp [Value.ownBlock]
  · intro he
    have : g' = g := by simpa [Value.ownBlock] using he
    subst this
    exact Blk.ne_ (t := e) hh hg hne rfl
end
section
variable {P : Program} (w : World)

theorem run_append_of_nil (base : Nat) (t ty e : TypeId) (i : TypeInfo) (size : Nat) (ht : P.underlying t = some (.slice e)) (hi : P.info? e = some i)
    (v : Value) (n : Nat) (xs : List Value) (hown : w.ownsRow base e size v n xs) (c : Nat) : (Builtin.append_ #[t, t] ty #[v, .slice none 0 c]).run P w = .ok v w := by
  rcases hown.2 with ⟨rfl, rfl⟩ | ⟨g, cap, cur, rfl, _, _, hnc, _⟩
  · simp [Builtin.append_, run_underlying ht, sizeOf, typeInfo, hi, Builtin.lenOf, Builtin.firstCells]
  · simp [Builtin.append_, run_underlying ht, sizeOf, typeInfo, hi, Builtin.lenOf, Builtin.firstCells, hnc, storeCells]

theorem run_append_any (base : Nat) (t ty e : TypeId) (i : TypeInfo) (z : Value) (size bytes : Nat) (ht : P.underlying t = some (.slice e)) (hi : P.info? e = some i) (hz : i.zero = some z)
    (hsize : i.size = size) (hby : i.bytes = bytes) (hzs : z.cells.size = size) (hsz : 0 < size)
    (v : Value) (n : Nat) (xs : List Value) (hown : w.ownsRow base e size v n xs)
    (B : Nat) (A : Option Addr) (m c : Nat) (news : List Value) (hr : Reads w B size A m news) (h1 : ∀ u ∈ news, u.oneCell' = true)
    (h63 : n + m ≤ maxLen) (hbytes : (n + m) * bytes ≤ 140737488355328) (hbase : base ≤ w.heap.size) :
    ∃ v' w', (Builtin.append_ #[t, t] ty #[v, .slice A m c]).run P w = .ok v' w' ∧ w'.ownsRow base e size v' (n + m) (xs ++ news) ∧ w.grownBy w' v.ownBlock ∧
      (v'.ownBlock = v.ownBlock ∨ v'.ownBlock = some w.heap.size) := by
  rcases A with _ | ad
  · have hm : m = 0 := by
      rcases Nat.eq_zero_or_pos m with h0 | h0
      · exact h0
      · obtain ⟨ad, h, _⟩ := hr.2 h0
        cases h
    subst hm
    have hn : news = [] := List.eq_nil_of_length_eq_zero (by simpa using hr.1)
    subst hn
    exact ⟨v, w, run_append_of_nil w base t ty e i size ht hi v n xs hown c, by simpa using hown, World.grownBy.refl w _, .inl rfl⟩
  · have hcells : ∀ j u, news[j]? = some u → w.cell? (ad.add j) = some u := by
      intro j u hu
      rcases Nat.eq_zero_or_pos m with h0 | h0
      · subst h0
        have hn : news = [] := List.eq_nil_of_length_eq_zero (by simpa using hr.1)
        subst hn
        simp at hu
      · obtain ⟨ad', h, _, hc⟩ := hr.2 h0
        injection h with h
        subst h
        exact hc j u hu
    obtain ⟨v', w', hrun, h2, h3, _, h5⟩ := run_append_own_at (P := P) w base t ty e i z size bytes ht hi hz hsize hby hzs hsz v n xs hown ad m c news hr.1 hcells h1 h63 hbytes hbase
    exact ⟨v', w', hrun, h2, h3, h5⟩

theorem wp_append_any {o : Oper} {a : Act} {K : Act → World → Prop} {Q : Exit → Act → World → Prop} (s x : Operand) (t : TypeId)
    (ho : o.op = .call { callee := .builtin .append, args := #[s, x], argTypes := #[t, t] })
    (base : Nat) (e : TypeId) (i : TypeInfo) (z : Value) (size bytes : Nat) (ht : P.underlying t = some (.slice e)) (hi : P.info? e = some i) (hz : i.zero = some z)
    (hsize : i.size = size) (hby : i.bytes = bytes) (hzs : z.cells.size = size) (hsz : 0 < size)
    (v : Value) (n : Nat) (xs : List Value) (hs : a.eval s = v) (hown : w.ownsRow base e size v n xs)
    (B : Nat) (A : Option Addr) (m c : Nat) (news : List Value) (hx : a.eval x = .slice A m c) (hr : Reads w B size A m news) (h1 : ∀ u ∈ news, u.oneCell' = true)
    (h63 : n + m ≤ maxLen) (hbytes : (n + m) * bytes ≤ 140737488355328) (hbase : base ≤ w.heap.size)
    (h : ∀ v' w', w'.ownsRow base e size v' (n + m) (xs ++ news) → w.grownBy w' v.ownBlock → (v'.ownBlock = v.ownBlock ∨ v'.ownBlock = some w.heap.size) → K (a.put o.dst v') w') : o.wp P a w K Q := by
  obtain ⟨v', w', hrun, h2, h3, h4⟩ := run_append_any (P := P) w base t o.type e i z size bytes ht hi hz hsize hby hzs hsz v n xs hown B A m c news hr h1 h63 hbytes hbase
  unfold Oper.wp execOp
  simp only [ho, resolve, invoke, builtin, Sem.run_bind, Sem.run_pure, Result.andThen_ok, List.map_toArray, List.map_cons, List.map_nil, hs, hx, hrun]
  exact h v' w' h2 h3 h4

theorem wpList_append_any {ops : Array Oper} {rest : List Oper} {o : Oper} {a : Act} {Q : Exit → Act → World → Prop} (hgd : o.guard = none) (s x : Operand) (t : TypeId)
    (ho : o.op = .call { callee := .builtin .append, args := #[s, x], argTypes := #[t, t] })
    (base : Nat) (e : TypeId) (i : TypeInfo) (z : Value) (size bytes : Nat) (ht : P.underlying t = some (.slice e)) (hi : P.info? e = some i) (hz : i.zero = some z)
    (hsize : i.size = size) (hby : i.bytes = bytes) (hzs : z.cells.size = size) (hsz : 0 < size)
    (v : Value) (n : Nat) (xs : List Value) (hs : a.eval s = v) (hown : w.ownsRow base e size v n xs)
    (B : Nat) (A : Option Addr) (m c : Nat) (news : List Value) (hx : a.eval x = .slice A m c) (hr : Reads w B size A m news) (h1 : ∀ u ∈ news, u.oneCell' = true)
    (h63 : n + m ≤ maxLen) (hbytes : (n + m) * bytes ≤ 140737488355328) (hbase : base ≤ w.heap.size)
    (h : ∀ v' w', w'.ownsRow base e size v' (n + m) (xs ++ news) → w.grownBy w' v.ownBlock → (v'.ownBlock = v.ownBlock ∨ v'.ownBlock = some w.heap.size) → wpList P ops Q rest (a.put o.dst v') w') : wpList P ops Q (o :: rest) a w :=
  wpList_plain hgd fun _ hK => wp_append_any w s x t ho base e i z size bytes ht hi hz hsize hby hzs hsz v n xs hs hown B A m c news hx hr h1 h63 hbytes hbase fun v' w' h2 h3 h4 => hK _ _ (h v' w' h2 h3 h4)

theorem step_append_any {ops : Array Oper} {o : Oper} {a : Act} {K : Act → World → Prop} {Q : Exit → Act → World → Prop} {E : Prop} (hgd : o.guard = none) (s x : Operand) (t : TypeId)
    (ho : o.op = .call { callee := .builtin .append, args := #[s, x], argTypes := #[t, t] })
    (base : Nat) (e : TypeId) (i : TypeInfo) (z : Value) (size bytes : Nat) (ht : P.underlying t = some (.slice e)) (hi : P.info? e = some i) (hz : i.zero = some z)
    (hsize : i.size = size) (hby : i.bytes = bytes) (hzs : z.cells.size = size) (hsz : 0 < size)
    (v : Value) (n : Nat) (xs : List Value) (hs : a.eval s = v) (hown : w.ownsRow base e size v n xs)
    (B : Nat) (A : Option Addr) (m c : Nat) (news : List Value) (hx : a.eval x = .slice A m c) (hr : Reads w B size A m news) (h1 : ∀ u ∈ news, u.oneCell' = true)
    (h63 : n + m ≤ maxLen) (hbytes : (n + m) * bytes ≤ 140737488355328) (hbase : base ≤ w.heap.size)
    (h : ∀ v' w', w'.ownsRow base e size v' (n + m) (xs ++ news) → w.grownBy w' v.ownBlock → (v'.ownBlock = v.ownBlock ∨ v'.ownBlock = some w.heap.size) → K (a.put o.dst v') w') :
    if Region.wanted o (yielded ops a.tmps) = true then Oper.wp P o a w K Q else E := by
  have hw : Region.wanted o (yielded ops a.tmps) = true := by simp [Region.wanted, hgd]
  rw [if_pos hw]
  exact wp_append_any w s x t ho base e i z size bytes ht hi hz hsize hby hzs hsz v n xs hs hown B A m c news hx hr h1 h63 hbytes hbase h
end

theorem below_drewN {B : Nat} {a w : World} (h : Below B a w) (n : Nat) : Below B a (w.drewN n) := ⟨h.os, h.tape, h.output, h.size, h.block⟩
theorem grown_trans {a b c : World} (h : Grown a b) (k : Grown b c) : Grown a c :=
  ⟨World.keptBut_trans h.1 k.1, fun x => (k.2.1 x).trans (h.2.1 x), Nat.le_trans h.2.2 k.2.2⟩

theorem only_drewN {a w : World} {row : Option Nat} (h : a.grownBy w row) (n : Nat) : a.grownBy (w.drewN n) row := ⟨h.os, h.tape, h.output, h.size, h.block⟩
theorem only_drew {a w : World} {row : Option Nat} (h : a.grownBy w row) : a.grownBy w.drew row := ⟨h.os, h.tape, h.output, h.size, h.block⟩
theorem only_alloc {a w : World} {row : Option Nat} (h : a.grownBy w row) (o : Obj) : a.grownBy (w.alloc o) row :=
  ⟨h.os, h.tape, h.output, Nat.le_trans h.size (by simp), fun i hi hne => (Below.heap_alloc w o i (Nat.lt_of_lt_of_le hi h.size)).trans (h.block i hi hne)⟩
theorem only_setCell {a w : World} {g : Nat} (h : a.grownBy w (some g)) {p : Addr} (hp : p.block = g ∨ a.heap.size ≤ p.block) (u : Value) : a.grownBy (w.setCell p u) (some g) :=
  ⟨h.os, h.tape, h.output, by simpa [World.setCell] using h.size, fun i hi hne => (Below.heap_setCell w p u i (by
    rintro rfl
    rcases hp with hp | hp
    · exact hne (by rw [hp])
    · omega)).trans (h.block i hi hne)⟩
theorem only_of_below {a w : World} (h : Below a.heap.size a w) (row : Option Nat) : a.grownBy w row := ⟨h.os, h.tape, h.output, h.size, fun i hi _ => h.block i hi⟩

theorem grown_of_none {a w : World} (h : a.grownBy w none) (row : Option Nat) : a.grownBy w row := ⟨h.os, h.tape, h.output, h.size, fun i hi _ => h.block i hi (by simp)⟩
/-- what turned only a block from B on left all below -/
theorem below_of_grown {a w : World} {g B : Nat} (h : a.grownBy w (some g)) (hB : B ≤ a.heap.size) (hg : B ≤ g) : Below B a w := (Below.refl B a).grown h hB (fun k e => by cases e; exact hg)
theorem below_of_none {a w : World} {B : Nat} (h : a.grownBy w none) (hB : B ≤ a.heap.size) : Below B a w := (Below.refl B a).grown h hB (fun k e => by cases e)

/-- a type's row of the table -/
def EI (P : Program) (e : TypeId) (z : Value) (size bytes : Nat) : Prop := ∃ i, P.info? e = some i ∧ i.zero = some z ∧ i.size = size ∧ i.bytes = bytes
theorem EI.mk {P : Program} {e : TypeId} {z : Value} {size bytes : Nat} (h : (P.info? e).map (fun i => (i.zero, i.size, i.bytes)) = some (some z, size, bytes)) : EI P e z size bytes := by
  obtain ⟨i, h1, h2, h3, h4⟩ := info_parts h
  exact ⟨i, h1, h2, h3, h4⟩

section
variable {P : Program} {w : World}
/-- 'append(out, x)', x one element of some cells that lies in the block just laid -/
theorem wpList_app1 {ops : Array Oper} {rest : List Oper} {o : Oper} {a : Act} {Q : Exit → Act → World → Prop} (hgd : o.guard = none) (s x : Operand) (t : TypeId)
    (ho : o.op = .call { callee := .builtin .append, args := #[s, x], argTypes := #[t, t] })
    {base : Nat} {e : TypeId} {z : Value} {size bytes : Nat} (hE : EI P e z size bytes) (ht : P.underlying t = some (.slice e)) (hzs : z.cells.size = size) (hsz : 0 < size)
    {v : Value} {n : Nat} {xs : List Value} (hs : a.eval s = v) (hown : w.ownsRow base e size v n xs)
    {cs : Array Value} {te : TypeId} {gx : Nat} (hx : a.eval x = .slice (some ⟨gx, 0, none⟩) 1 1) (hgx : gx = w.heap.size) (hl : cs.size = size) (h1 : ∀ u ∈ cs.toList, u.oneCell' = true)
    (hb63 : n + 1 ≤ maxLen) (hbytes : (n + 1) * bytes ≤ 140737488355328) (hbase : base ≤ w.heap.size)
    (h : ∀ v' w', w'.ownsRow base e size v' (n + 1) (xs ++ cs.toList) → w.grownBy w' v.ownBlock → Below base w w' → (v'.ownBlock = v.ownBlock ∨ ∃ g, v'.ownBlock = some g ∧ w.heap.size ≤ g) → v' ≠ .slice none 0 0 →
      wpList P ops Q rest (a.put o.dst v') w') : wpList P ops Q (o :: rest) a (w.alloc (.cells cs te)) := by
  obtain ⟨i, hi, hz0, hz1, hz2⟩ := hE
  subst hgx
  have hcell : ∀ j u, cs.toList[j]? = some u → (w.alloc (.cells cs te)).cell? ((⟨w.heap.size, 0, none⟩ : Addr).add j) = some u := by
    intro j u hu
    have e1 : ((⟨w.heap.size, 0, none⟩ : Addr).add j) = ⟨w.heap.size, j, none⟩ := by rw [Addr.add_lit]; simp
    rw [e1, (Blk.new w te cs).cell j]
    simpa using hu
  obtain ⟨v', w', hrun, h2, h3, h4, h5⟩ := run_append_own_at (P := P) (w.alloc (.cells cs te)) base t o.type e i z size bytes ht hi hz0 hz1 hz2 hzs hsz v n xs (hown.alloc _) ⟨w.heap.size, 0, none⟩ 1 1 cs.toList (by simp [hl]) hcell h1 hb63 hbytes (by simp; omega)
  have hg : w.grownBy w' v.ownBlock := (World.grownBy_alloc w _ _).trans h3
  refine wpList_plain hgd fun K hK => ?_
  unfold Oper.wp execOp
  simp only [ho, resolve, invoke, builtin, Sem.run_bind, Sem.run_pure, Result.andThen_ok, List.map_toArray, List.map_cons, List.map_nil, hs, hx, hrun]
  refine hK _ _ (h v' w' h2 hg ((Below.refl _ _).grown hg hbase fun k hk => ?_) ?_ fun hc => ?_)
  · exact (hown.lt k hk).1
  · rcases h5 with h5 | h5
    · exact .inl h5
    · exact .inr ⟨_, h5, by simp⟩
  · have := (h4.1 hc).2; omega

/-- the same in a region that draws its order -/
theorem step_app1 {ops : Array Oper} {o : Oper} {a : Act} {K : Act → World → Prop} {Q : Exit → Act → World → Prop} {E : Prop} (hgd : o.guard = none) (s x : Operand) (t : TypeId)
    (ho : o.op = .call { callee := .builtin .append, args := #[s, x], argTypes := #[t, t] })
    {base : Nat} {e : TypeId} {z : Value} {size bytes : Nat} (hE : EI P e z size bytes) (ht : P.underlying t = some (.slice e)) (hzs : z.cells.size = size) (hsz : 0 < size)
    {v : Value} {n : Nat} {xs : List Value} (hs : a.eval s = v) (hown : w.ownsRow base e size v n xs)
    {cs : Array Value} {te : TypeId} {gx : Nat} (hx : a.eval x = .slice (some ⟨gx, 0, none⟩) 1 1) (hgx : gx = w.heap.size) (hl : cs.size = size) (h1 : ∀ u ∈ cs.toList, u.oneCell' = true)
    (hb63 : n + 1 ≤ maxLen) (hbytes : (n + 1) * bytes ≤ 140737488355328) (hbase : base ≤ w.heap.size)
    (h : ∀ v' w', w'.ownsRow base e size v' (n + 1) (xs ++ cs.toList) → w.grownBy w' v.ownBlock → Below base w w' → K (a.put o.dst v') w') :
    if Region.wanted o (yielded ops a.tmps) = true then Oper.wp P o a (w.alloc (.cells cs te)) K Q else E := by
  have hw : Region.wanted o (yielded ops a.tmps) = true := by simp [Region.wanted, hgd]
  rw [if_pos hw]
  obtain ⟨i, hi, hz0, hz1, hz2⟩ := hE
  subst hgx
  have hcell : ∀ j u, cs.toList[j]? = some u → (w.alloc (.cells cs te)).cell? ((⟨w.heap.size, 0, none⟩ : Addr).add j) = some u := by
    intro j u hu
    have e1 : ((⟨w.heap.size, 0, none⟩ : Addr).add j) = ⟨w.heap.size, j, none⟩ := by rw [Addr.add_lit]; simp
    rw [e1, (Blk.new w te cs).cell j]
    simpa using hu
  obtain ⟨v', w', hrun, h2, h3, h4, h5⟩ := run_append_own_at (P := P) (w.alloc (.cells cs te)) base t o.type e i z size bytes ht hi hz0 hz1 hz2 hzs hsz v n xs (hown.alloc _) ⟨w.heap.size, 0, none⟩ 1 1 cs.toList (by simp [hl]) hcell h1 hb63 hbytes (by simp; omega)
  have hg : w.grownBy w' v.ownBlock := (World.grownBy_alloc w _ _).trans h3
  unfold Oper.wp execOp
  simp only [ho, resolve, invoke, builtin, Sem.run_bind, Sem.run_pure, Result.andThen_ok, List.map_toArray, List.map_cons, List.map_nil, hs, hx, hrun]
  exact h v' w' h2 hg ((Below.refl _ _).grown hg hbase fun k hk => (hown.lt k hk).1)

/-- 'append(out, xs...)' -/
theorem wpList_appN {ops : Array Oper} {rest : List Oper} {o : Oper} {a : Act} {Q : Exit → Act → World → Prop} (hgd : o.guard = none) (s x : Operand) (t : TypeId)
    (ho : o.op = .call { callee := .builtin .append, args := #[s, x], argTypes := #[t, t] })
    {base : Nat} {e : TypeId} {z : Value} {size bytes : Nat} (hE : EI P e z size bytes) (ht : P.underlying t = some (.slice e)) (hzs : z.cells.size = size) (hsz : 0 < size)
    {v : Value} {n : Nat} {xs : List Value} (hs : a.eval s = v) (hown : w.ownsRow base e size v n xs)
    {B : Nat} {A : Option Addr} {m c : Nat} {news : List Value} (hx : a.eval x = .slice A m c) (hr : Reads w B size A m news) (h1 : ∀ u ∈ news, u.oneCell' = true)
    (h63 : n + m ≤ maxLen) (hbytes : (n + m) * bytes ≤ 140737488355328) (hbase : base ≤ w.heap.size)
    (h : ∀ v' w', w'.ownsRow base e size v' (n + m) (xs ++ news) → w.grownBy w' v.ownBlock → Below base w w' → wpList P ops Q rest (a.put o.dst v') w') : wpList P ops Q (o :: rest) a w := by
  obtain ⟨i, hi, hz0, hz1, hz2⟩ := hE
  refine wpList_append_any w hgd s x t ho base e i z size bytes ht hi hz0 hz1 hz2 hzs hsz v n xs hs hown B A m c news hx hr h1 h63 hbytes hbase fun v' w' h2 h3 _ => h v' w' h2 h3 ((Below.refl _ _).grown h3 hbase fun k hk => (hown.lt k hk).1)

/-- a byte as a cell -/
def encB (b : UInt8) : Value := .int .u8 (b.toNat : Int)
theorem encB_ofNat (k : Nat) : encB (UInt8.ofNat k) = .int .u8 ((k % 256 : Nat) : Int) := by unfold encB; simp

/-- 'string(b)', b a row of the call's own -/
theorem str_of_own {src dst e : TypeId} {base : Nat} {v : Value} {l : List UInt8} {n : Nat} (hs : P.underlying src = some (.slice e)) (he : P.underlying e = some (.int .u8)) (hd : P.underlying dst = some .string)
    (h : w.ownsRow base e 1 v n (l.map encB)) : (convert src dst v).run P w = .ok (.string ⟨l.toArray⟩) w := by
  have hn : l.length = n := by have := h.1; simpa using this
  rcases h.2 with ⟨rfl, h0⟩ | ⟨g, cap, cur, rfl, _⟩
  · subst h0
    have : l = [] := List.eq_nil_of_length_eq_zero hn
    subst this
    rw [run_convert_bytes_string w src dst e none 0 0 hs he hd]; rfl
  · subst hn
    refine run_convert_bytes_back w src dst e _ cap l hs he hd fun j hj => ?_
    have := h.cells (g := g) rfl j (encB l[j]) (by simp [hj])
    exact this
/-- 'string([]byte{x})' -/
theorem str_of_new {src dst e : TypeId} (W : World) (x : Int) (te : TypeId) (c : Nat) (hs : P.underlying src = some (.slice e)) (he : P.underlying e = some (.int .u8)) (hd : P.underlying dst = some .string) :
    (convert src dst (.slice (some ⟨W.heap.size, 0, none⟩) 1 c)).run P (W.alloc (.cells #[.int .u8 x] te)) = .ok (.string ⟨[UInt8.ofNat x.toNat].toArray⟩) (W.alloc (.cells #[.int .u8 x] te)) := by
  rw [run_convert_bytes_string _ src dst e _ 1 c hs he hd]
  have hl := run_loadCells_list (P := P) (W.alloc (.cells #[.int .u8 x] te)) ⟨W.heap.size, 0, none⟩ ([x].map (Value.int .u8)) (fun j v hj => by
    have : j = 0 := by
      have := (List.getElem?_eq_some_iff.1 hj).1
      simp at this; omega
    subst this
    simp at hj
    subst hj
    rw [Addr.add_lit]
    exact (Blk.new W te #[.int .u8 x]).cell 0)
  rw [run_bytesToString _ _ 1 c [x] hl]
  rfl
/-- '[]byte(s)' -/
theorem bytes_of_str {src dst e : TypeId} (W : World) (l : List UInt8) (hs : P.underlying src = some .string) (hd : P.underlying dst = some (.slice e)) (he : P.underlying e = some (.int .u8)) :
    ∃ cap W', (convert src dst (.string ⟨l.toArray⟩)).run P W = .ok (.slice (some ⟨W.heap.size, 0, none⟩) l.length cap) W' ∧ W.grownBy W' none ∧ (∀ (j : Nat) (hj : j < l.length), W'.cell? ⟨W.heap.size, j, none⟩ = some (.int .u8 (l[j].toNat : Int))) := by
  refine ⟨_, _, run_bytes_of_string W src dst e ⟨l.toArray⟩ hs hd he, ?_, fun j hj => ?_⟩
  · exact only_alloc (only_drew (World.grownBy.refl W none)) _
  · rw [show W.heap.size = W.drew.heap.size from rfl, World.cell?_alloc_mark, bytesRow_at _ _ _ (by simpa using hj)]
    simp
end
end Go.Proofs.YtlgbcogdogpihaaGreatDoor
namespace Go.Proofs.YtlgbcogdogpihaaGreatDoor
open Go.RowKit
/-- how a thing lies in cells -/
structure Enc (α : Type) where
  enc : α → List Value
  size : Nat
  len : ∀ x, (enc x).length = size
  pos : 0 < size
  one : ∀ x, ∀ u ∈ enc x, u.oneCell' = true
section
variable {α : Type} {E : Enc α} {w w' : World} {B : Nat} {A : Option Addr} {l : List α}
def Enc.cells (E : Enc α) (l : List α) : List Value := l.flatMap E.enc
theorem Enc.cells_length (E : Enc α) (l : List α) : (E.cells l).length = l.length * E.size := by
  induction l with
  | nil => simp [Enc.cells]
  | cons r l ih => unfold Enc.cells at *; rw [List.flatMap_cons, List.length_append, ih, List.length_cons, E.len, Nat.succ_mul]; omega
theorem Enc.cells_append (E : Enc α) (a b : List α) : E.cells (a ++ b) = E.cells a ++ E.cells b := by unfold Enc.cells; rw [List.flatMap_append]
theorem Enc.cells_one (E : Enc α) (x : α) : E.cells [x] = E.enc x := by simp [Enc.cells]
theorem Enc.cells_snoc (E : Enc α) (l : List α) (x : α) : E.cells (l ++ [x]) = E.cells l ++ E.enc x := by rw [E.cells_append, E.cells_one]
theorem Enc.cells_cons (E : Enc α) (x : α) (l : List α) : E.cells (x :: l) = E.enc x ++ E.cells l := by unfold Enc.cells; rw [List.flatMap_cons]
theorem Enc.cells_at (E : Enc α) (l : List α) (k : Nat) (hk : k < l.length) (j : Nat) (hj : j < E.size) : (E.cells l)[k * E.size + j]? = (E.enc l[k])[j]? := by
  induction l generalizing k with
  | nil => simp at hk
  | cons r l ih =>
    rw [E.cells_cons]
    cases k with
    | zero => rw [Nat.zero_mul, Nat.zero_add, List.getElem?_append_left (by rw [E.len]; exact hj)]; rfl
    | succ k =>
      have := ih k (by simpa using hk)
      rw [List.getElem?_append_right (by rw [E.len, Nat.succ_mul]; omega), E.len, Nat.succ_mul, show k * E.size + E.size + j - E.size = k * E.size + j by omega, this]
      rfl
theorem Enc.cells_all (E : Enc α) (l : List α) : ∀ u ∈ E.cells l, u.oneCell' = true := by
  intro u hu
  unfold Enc.cells at hu
  obtain ⟨r, _, hr⟩ := List.mem_flatMap.1 hu
  exact E.one r u hr
theorem Enc.cells_drop (E : Enc α) (l : List α) (k : Nat) : (E.cells l).drop (k * E.size) = E.cells (l.drop k) := by
  induction l generalizing k with
  | nil => simp [Enc.cells]
  | cons r l ih =>
    cases k with
    | zero => simp
    | succ k =>
      rw [E.cells_cons, Nat.succ_mul, List.drop_append, E.len, List.drop_of_length_le (by rw [E.len]; omega), List.nil_append, show k * E.size + E.size - E.size = k * E.size by omega, ih]
      rfl
theorem Enc.cells_take (E : Enc α) (l : List α) (k : Nat) : (E.cells l).take (k * E.size) = E.cells (l.take k) := by
  induction l generalizing k with
  | nil => simp [Enc.cells]
  | cons r l ih =>
    cases k with
    | zero => simp [Enc.cells]
    | succ k =>
      rw [E.cells_cons, Nat.succ_mul, List.take_append, E.len, List.take_of_length_le (by rw [E.len]; omega), show k * E.size + E.size - E.size = k * E.size by omega, ih, ← E.cells_cons]
      rfl
/-- a slice that reads as a list -/
def LS (E : Enc α) (w : World) (B : Nat) (A : Option Addr) (l : List α) : Prop := Reads w B E.size A l.length (E.cells l)
theorem LS.at_ (h : LS E w B A l) {k : Nat} (hk : k < l.length) : ∃ b off, A = some ⟨b, off, none⟩ ∧ b < B ∧ ∀ j, j < E.size → w.cell? ⟨b, off + k * E.size + j, none⟩ = (E.enc l[k])[j]? := by
  obtain ⟨ad, rfl, hb, hc⟩ := h.2 (by omega)
  obtain ⟨b, off, spot⟩ := ad
  have hs : spot = none := by
    have h0 := E.cells_at l 0 (by omega) 0 E.pos
    rw [List.getElem?_eq_getElem (l := E.enc (l[0]'(by omega))) (by rw [E.len]; exact E.pos)] at h0
    have := hc _ _ h0
    simpa [Addr.add] using World.cell?_spot this
  subst hs
  refine ⟨b, off, rfl, hb, fun j hj => ?_⟩
  have h0 := E.cells_at l k hk j hj
  rw [List.getElem?_eq_getElem (l := E.enc l[k]) (by rw [E.len]; exact hj)] at h0
  have := hc _ _ h0
  rw [Addr.add_lit] at this
  rw [Nat.add_assoc, this, ← h0, E.cells_at l k hk j hj]
theorem LS.below (h : LS E w B A l) (hb : Below B w w') : LS E w' B A l := Reads.below h hb
theorem LS.more {B' : Nat} (h : LS E w B A l) (hB : B ≤ B') : LS E w B' A l := Reads.more h hB
theorem LS.up (h : LS E w w.heap.size A l) (hb : Below w.heap.size w w') : LS E w' w'.heap.size A l := (h.below hb).more hb.size
theorem LS.nil_ : LS E w B A [] := ⟨by simp [Enc.cells], fun h => absurd h (by simp)⟩
theorem LS.cut (h : LS E w B A l) {k cap : Nat} (hk : k ≤ l.length) (hc : l.length ≤ cap) : LS E w B (if cap = k then A else A.map (·.add (k * E.size))) (l.drop k) := by
  have := Reads.cut (size := E.size) h hk hc
  unfold LS
  rw [List.length_drop, ← E.cells_drop]
  exact this
theorem LS.take_ (h : LS E w B A l) (k : Nat) : LS E w B A (l.take k) := by
  unfold LS
  refine ⟨E.cells_length _, fun hn => ?_⟩
  obtain ⟨ad, e, hb, hc⟩ := h.2 (by rw [List.length_take] at hn; omega)
  refine ⟨ad, e, hb, fun j u hu => hc j u ?_⟩
  rw [← E.cells_take] at hu
  rw [List.getElem?_take] at hu
  split at hu
  · exact hu
  · cases hu
/-- a row of the call's own -/
def LO (E : Enc α) (ty : TypeId) (w : World) (base : Nat) (v : Value) (l : List α) : Prop := w.ownsRow base ty E.size v l.length (E.cells l)
section
variable {ty : TypeId} {base : Nat} {v : Value}
theorem LO.nil_ (w : World) (base : Nat) : LO E ty w base (.slice none 0 0) [] := World.ownsRow_nil _ _ _ _
theorem LO.raw (h : LO E ty w base v l) {n s : Nat} (hn : l.length = n) (hs : E.size = s) : w.ownsRow base ty s v n (E.cells l) := by subst hn hs; exact h
theorem LO.form (h : LO E ty w base v l) : ∃ A c, v = .slice A l.length c := by
  rcases h.2 with ⟨rfl, h0⟩ | ⟨g, cap, cur, rfl, _⟩
  · exact ⟨none, 0, by rw [h0]⟩
  · exact ⟨_, _, rfl⟩
theorem LO.ls {n c : Nat} (h : LO E ty w base (.slice A n c) l) : LS E w w.heap.size A l := by
  obtain ⟨A', c', e⟩ := h.form
  injection e with e1 e2 e3
  subst e1 e2
  exact Reads.of_own h
theorem own_lower {e size n : Nat} {xs : List Value} {base' : Nat} (h : w.ownsRow base e size v n xs) (hb : base' ≤ base) : w.ownsRow base' e size v n xs := by
  refine ⟨h.1, ?_⟩
  rcases h.2 with h0 | ⟨g, cap, cur, h1, h2, h3⟩
  · exact .inl h0
  · exact .inr ⟨g, cap, cur, h1, Nat.le_trans hb h2, h3⟩
theorem own_below {e size n : Nat} {xs : List Value} (h : w.ownsRow base e size v n xs) (hb : Below w.heap.size w w') : w'.ownsRow base e size v n xs := by
  refine ⟨h.1, ?_⟩
  rcases h.2 with h0 | ⟨g, cap, cur, h1, h2, h3, h4⟩
  · exact .inl h0
  · refine .inr ⟨g, cap, cur, h1, h2, ?_, h4⟩
    rw [hb.block g ?_]; exact h3
    rcases Nat.lt_or_ge g w.heap.size with hlt | hge
    · exact hlt
    · rw [Array.getElem?_eq_none hge] at h3; cases h3
theorem own_form {e size n : Nat} {xs : List Value} (h : w.ownsRow base e size v n xs) : ∃ A c, v = .slice A n c := by
  rcases h.2 with ⟨rfl, h0⟩ | ⟨g, cap, cur, rfl, _⟩
  · exact ⟨none, 0, by rw [h0]⟩
  · exact ⟨_, _, rfl⟩
theorem LO.below (h : LO E ty w base v l) (hb : Below w.heap.size w w') : LO E ty w' base v l := own_below h hb
theorem LO.lower {base' : Nat} (h : LO E ty w base v l) (hb : base' ≤ base) : LO E ty w base' v l := own_lower h hb
theorem LO.alloc (h : LO E ty w base v l) (o : Obj) : LO E ty (w.alloc o) base v l := World.ownsRow.alloc h o
theorem LO.drewN (h : LO E ty w base v l) (n : Nat) : LO E ty (w.drewN n) base v l := h
theorem LO.snoc {x : α} {cs : List Value} {n s : Nat} (hn : l.length = n) (hs : E.size = s) (hc : cs = E.enc x) (h : w.ownsRow base ty s v (n + 1) (E.cells l ++ cs)) : LO E ty w base v (l ++ [x]) := by
  subst hn hs hc
  unfold LO
  rw [List.length_append, E.cells_snoc]
  exact h
theorem LO.keep {row : Option Nat} (h : LO E ty w base v l) (hg : w.grownBy w' row) (hr : ∀ r, row = some r → ∃ o, w.heap[r]? = some o ∧ ∀ cs, o ≠ .cells cs ty (0, 0)) : LO E ty w' base v l := by
  rcases h with ⟨h1, h2 | ⟨g, cap, cur, hv, hb, hh, r⟩⟩
  · exact ⟨h1, .inl h2⟩
  · refine ⟨h1, .inr ⟨g, cap, cur, hv, hb, (hg.block g (Array.getElem?_eq_some_iff.1 hh).1 ?_).trans hh, r⟩⟩
    intro e
    obtain ⟨o, ho, hne⟩ := hr g e.symm
    rw [hh] at ho; cases ho
    exact hne cur rfl
/-- how a function that gives a list of its own ends -/
def LEnd (E : Enc α) (ty : TypeId) (o : List α) (w : World) (e : Ending) (w' : World) : Prop := ∃ v, e = .returned v ∧ LO E ty w' w.heap.size v o ∧ Below w.heap.size w w'
theorem LEnd.open_ {e : Ending} (h : LEnd E ty l w e w') : ∃ A c, e = .returned (.slice A l.length c) ∧ LO E ty w' w.heap.size (.slice A l.length c) l ∧ LS E w' w'.heap.size A l ∧ Below w.heap.size w w' := by
  obtain ⟨v, rfl, ho, hb⟩ := h
  obtain ⟨A, c, rfl⟩ := ho.form
  exact ⟨A, c, rfl, ho, ho.ls, hb⟩
/-- how a function that gives some list back, its own or one that came in, ends -/
def LGive (E : Enc α) (o : List α) (w : World) (e : Ending) (w' : World) : Prop := ∃ A c, e = .returned (.slice A o.length c) ∧ o.length ≤ c ∧ (A = none → c = 0) ∧ LS E w' w'.heap.size A o ∧ Below w.heap.size w w'
end
end
theorem own_obj {w : World} {base e size c : Nat} {v : Value} {xs : List Value} (h : w.ownsRow base e size v c xs) {r : Nat} (hr : v.ownBlock = some r) : ∃ cs, w.heap[r]? = some (.cells cs e (0, 0)) := by
  rcases h.2 with ⟨rfl, _⟩ | ⟨g, cap, cur, rfl, _, h3, _⟩
  · simp [Value.ownBlock] at hr
  · simp [Value.ownBlock] at hr; subst hr; exact ⟨_, h3⟩
/-- a row lies as it lay where a row of another type has grown -/
theorem keep_row {w w' : World} {base e size c : Nat} {v : Value} {xs : List Value} (h : w.ownsRow base e size v c xs) {base2 e2 size2 c2 : Nat} {v2 : Value} {xs2 : List Value} (h2 : w.ownsRow base2 e2 size2 v2 c2 xs2) (hne : e ≠ e2) (hg : w.grownBy w' v2.ownBlock) : w'.ownsRow base e size v c xs := by
  refine ⟨h.1, ?_⟩
  rcases h.2 with h0 | ⟨g, cap, cur, g1, g2, g3, g4⟩
  · exact .inl h0
  · refine .inr ⟨g, cap, cur, g1, g2, ?_, g4⟩
    rw [hg.block g (Array.getElem?_eq_some_iff.1 g3).1 ?_]; exact g3
    intro hr
    obtain ⟨cs, hcs⟩ := own_obj h2 hr.symm
    rw [g3] at hcs
    injection hcs with hcs; injection hcs with _ hcs; exact hne hcs
theorem LO.set_ {w : World} {base g : Nat} {α : Type} {E : Enc α} {ty ty' : TypeId} {cs : Array Value} {v : Value} {l : List α} {i : Nat} {u : Value} (h : LO E ty w base v l) (hB : Blk w g ty' cs) (hne : ty' ≠ ty) : LO E ty (w.setCell ⟨g, i, none⟩ u) base v l :=
  h.keep (only_setCell (World.grownBy.refl w (some g)) (.inl rfl) u) fun r e => by
    cases e; exact ⟨_, hB, fun cs e => by injection e with _ e; exact hne e⟩
end Go.Proofs.YtlgbcogdogpihaaGreatDoor
