/- Imports of all walks of this seat, under one name. Words for memory over any program: a slice that reads as a list, a block known whole, appends onto rows of the call's own, strings of owned bytes. The first parts are the guide's own lemmas to copy (extra-words). Plain: numbers as bytes, a chain page. The walks of package codec: numbers as bytes, a reader of bytes. The walks of codec's Reader. The walk of (*codec.Reader).Int. Lists of things of some cells in memory, over any encoding; and rows of the call's own. -/
import Derived.WalkKit
import Derived.WalkSpells
import Derived.WalkLawsBesides
import Derived.KernelRfl
import Derived.Lib.Hide
import Derived.BigQuiet
import Derived.Deep.QuietTactic
import Derived.Deep.Draws
import Derived.Deep.AppendLies
import Derived.Maps.AppendAt
import Derived.RegionTactic
import Derived.Lib.MinMax
import Derived.Laws.BitsAllLaws
import Derived.Laws.BitsLemmas
import Derived.Test.YtpfplojkiloldaaGreatDoorChecked

namespace Go.Proofs.YtpfplojkiloldaaGreatDoor
open Go.RowKit
theorem block_of_add (a : Addr) (n : Nat) : (a.add n).block = a.block := by unfold Addr.add; split <;> rfl
theorem add_of_add (a : Addr) (i j : Nat) : (a.add i).add j = a.add (i + j) := by
  unfold Addr.add
  by_cases hi : i = 0 <;> by_cases hj : j = 0 <;> simp [hi, hj, Nat.add_assoc]
def Reads (w : World) (B size : Nat) (A : Option Addr) (n : Nat) (xs : List Value) : Prop :=
  xs.length = n * size ∧ (0 < n → ∃ ad, A = some ad ∧ ad.block < B ∧ ∀ j u, xs[j]? = some u → w.cell? (ad.add j) = some u)
section
variable {w w' : World} {B B' size n : Nat} {A : Option Addr} {xs : List Value}
theorem Reads.none_ : Reads w B size A 0 [] := ⟨by simp, fun h => absurd h (by omega)⟩
theorem Reads.at_ {k : Nat} (h : Reads w B 1 A n xs) (hk : k < n) : ∃ ad u, A = some ad ∧ ad.block < B ∧ xs[k]? = some u ∧ w.cell? (ad.add k) = some u := by
  obtain ⟨ad, e, hb, hc⟩ := h.2 (by omega)
  have hl : k < xs.length := by have := h.1; omega
  exact ⟨ad, xs[k], e, hb, List.getElem?_eq_getElem hl, hc k _ (List.getElem?_eq_getElem hl)⟩
theorem Reads.keep (h : Reads w B size A n xs) (hk : ∀ p : Addr, p.block < B → w'.cell? p = w.cell? p) : Reads w' B size A n xs :=
  ⟨h.1, fun hn => by
    obtain ⟨ad, e, hb, hc⟩ := h.2 hn
    exact ⟨ad, e, hb, fun j u hu => (hk _ (by rw [block_of_add]; exact hb)).trans (hc j u hu)⟩⟩
theorem Reads.more (h : Reads w B size A n xs) (hB : B ≤ B') : Reads w B' size A n xs :=
  ⟨h.1, fun hn => by
    obtain ⟨ad, e, hb, hc⟩ := h.2 hn
    exact ⟨ad, e, by omega, hc⟩⟩
theorem Reads.below (h : Reads w B size A n xs) (hb : Below B w w') : Reads w' B size A n xs := h.keep fun _ hp => hb.cell hp
theorem Reads.drew (h : Reads w B size A n xs) : Reads w.drew B size A n xs := h
theorem Reads.drewN (h : Reads w B size A n xs) (k : Nat) : Reads (w.drewN k) B size A n xs := h
theorem Reads.alloc (h : Reads w B size A n xs) (hB : B ≤ w.heap.size) (o : Obj) : Reads (w.alloc o) B size A n xs := h.keep fun p hp => World.cell?_alloc_lt w o p (by omega)
theorem Reads.setCell (h : Reads w B size A n xs) {p : Addr} (hB : B ≤ p.block) (u : Value) : Reads (w.setCell p u) B size A n xs :=
  h.keep fun q hq => World.cell?_setCell_other w p q u (fun e => by subst e; omega)
theorem Reads.grown (h : Reads w B size A n xs) {row : Option Nat} (hg : w.grownBy w' row) (hB : B ≤ w.heap.size) (hr : ∀ g, row = some g → B ≤ g) : Reads w' B size A n xs :=
  h.keep fun p hp => World.cell?_of_block (hg.block p.block (by omega) (fun e => by have := hr _ e.symm; omega))
theorem Reads.cut (h : Reads w B size A n xs) {k cap : Nat} (hk : k ≤ n) (hc : n ≤ cap) :
    Reads w B size (if cap = k then A else A.map (·.add (k * size))) (n - k) (xs.drop (k * size)) := by
  refine ⟨by rw [List.length_drop, h.1, Nat.sub_mul], fun hn => ?_⟩
  obtain ⟨ad, rfl, hb, hcell⟩ := h.2 (by omega)
  rw [if_neg (by omega)]
  refine ⟨ad.add (k * size), rfl, by rw [block_of_add]; exact hb, fun j u hu => ?_⟩
  rw [add_of_add]
  exact hcell _ u (by rw [← hu, List.getElem?_drop])
theorem Reads.of_own {base : Nat} {e : TypeId} {c : Nat} (h : w.ownsRow base e size (.slice A n c) n xs) : Reads w w.heap.size size A n xs := by
  refine ⟨h.1, fun hn => ?_⟩
  obtain ⟨g, cap, hv, _, hlt⟩ := h.form hn
  have hA : A = some ⟨g, 0, none⟩ := by injection hv
  subst hA
  exact ⟨_, rfl, hlt, h.cells (g := g) rfl⟩
end
def Blk (w : World) (g : Nat) (t : TypeId) (cs : Array Value) : Prop := w.heap[g]? = some (.cells cs t (0, 0))
section
variable {w w' : World} {g : Nat} {t : TypeId} {cs : Array Value}
theorem Blk.lt (h : Blk w g t cs) : g < w.heap.size := by
  rcases Nat.lt_or_ge g w.heap.size with hlt | hge
  · exact hlt
  · unfold Blk at h; rw [Array.getElem?_eq_none hge] at h; cases h
theorem Blk.cell (h : Blk w g t cs) (i : Nat) : w.cell? ⟨g, i, none⟩ = cs[i]? := cell_of_row w g i cs t (0, 0) h
theorem Blk.frozen (h : Blk w g t cs) (i : Nat) : w.frozen? ⟨g, i, none⟩ = false := by
  unfold Blk at h
  simp [World.frozen?, h]
theorem Blk.new (w : World) (t : TypeId) (cs : Array Value) : Blk (w.alloc (.cells cs t)) w.heap.size t cs := heap_alloc_new w _
theorem Blk.drew (h : Blk w g t cs) : Blk w.drew g t cs := h
theorem Blk.drewN (h : Blk w g t cs) (n : Nat) : Blk (w.drewN n) g t cs := h
theorem Blk.alloc (h : Blk w g t cs) (o : Obj) : Blk (w.alloc o) g t cs := (Below.heap_alloc w o g h.lt).trans h
theorem Blk.set_ (h : Blk w g t cs) (i : Nat) (u : Value) : Blk (w.setCell ⟨g, i, none⟩ u) g t (cs.setIfInBounds i u) := by
  unfold Blk at h ⊢
  simp [World.setCell, Array.getElem?_modify, h]
theorem Blk.far (h : Blk w g t cs) {p : Addr} (hp : g ≠ p.block) (u : Value) : Blk (w.setCell p u) g t cs := (Below.heap_setCell w p u g hp).trans h
theorem Blk.below {B : Nat} (h : Blk w g t cs) (hb : Below B w w') (hg : g < B) : Blk w' g t cs := (hb.block g hg).trans h
theorem Blk.grown {row : Option Nat} (h : Blk w g t cs) (hb : w.grownBy w' row) (hg : some g ≠ row) : Blk w' g t cs := (hb.block g h.lt hg).trans h
theorem Blk.ne_ {g' : Nat} {t' : TypeId} {cs' : Array Value} (h : Blk w g t cs) (h' : Blk w g' t' cs') (hne : t ≠ t') : g ≠ g' := by
  rintro rfl
  unfold Blk at h h'
  rw [h] at h'
  injection h' with h'
  injection h' with _ ht
  exact hne ht
theorem own_blk_ne {base : Nat} {e : TypeId} {size n : Nat} {v : Value} {xs : List Value} (h : w.ownsRow base e size v n xs) (hg : Blk w g t cs) (hne : e ≠ t) : v.ownBlock ≠ some g := by
  rcases h.2 with ⟨rfl, _⟩ | ⟨g', cap, cur, rfl, _, hh, _⟩
  · simp [Value.ownBlock]
  · intro he
    have : g' = g := by simpa [Value.ownBlock] using he
    subst this
    exact Blk.ne_ (t := e) hh hg hne rfl
end
section
variable {P : Program} (w : World)
theorem run_append_of_nil (base : Nat) (t ty e : TypeId) (i : TypeInfo) (size : Nat) (ht : P.underlying t = some (.slice e)) (hi : P.info? e = some i)
    (v : Value) (n : Nat) (xs : List Value) (hown : w.ownsRow base e size v n xs) (c : Nat) : (Builtin.append_ #[t, t] ty #[v, .slice none 0 c]).run P w = .ok v w := by
  rcases hown.2 with ⟨rfl, rfl⟩ | ⟨g, cap, cur, rfl, _, _, hnc, _⟩
  · simp [Builtin.append_, run_underlying ht, sizeOf, typeInfo, hi, Builtin.lenOf, Builtin.firstCells]
  · simp [Builtin.append_, run_underlying ht, sizeOf, typeInfo, hi, Builtin.lenOf, Builtin.firstCells, hnc, storeCells]
theorem run_append_any (base : Nat) (t ty e : TypeId) (i : TypeInfo) (z : Value) (size bytes : Nat) (ht : P.underlying t = some (.slice e)) (hi : P.info? e = some i) (hz : i.zero = some z)
    (hsize : i.size = size) (hby : i.bytes = bytes) (hzs : z.cells.size = size) (hsz : 0 < size)
    (v : Value) (n : Nat) (xs : List Value) (hown : w.ownsRow base e size v n xs)
    (B : Nat) (A : Option Addr) (m c : Nat) (news : List Value) (hr : Reads w B size A m news) (h1 : ∀ u ∈ news, u.oneCell' = true)
    (h63 : n + m ≤ maxLen) (hbytes : (n + m) * bytes ≤ 140737488355328) (hbase : base ≤ w.heap.size) :
    ∃ v' w', (Builtin.append_ #[t, t] ty #[v, .slice A m c]).run P w = .ok v' w' ∧ w'.ownsRow base e size v' (n + m) (xs ++ news) ∧ w.grownBy w' v.ownBlock ∧
      (v'.ownBlock = v.ownBlock ∨ v'.ownBlock = some w.heap.size) := by
  rcases A with _ | ad
  · have hm : m = 0 := by
      rcases Nat.eq_zero_or_pos m with h0 | h0
      · exact h0
      · obtain ⟨ad, h, _⟩ := hr.2 h0
        cases h
    subst hm
    have hn : news = [] := List.eq_nil_of_length_eq_zero (by simpa using hr.1)
    subst hn
    exact ⟨v, w, run_append_of_nil w base t ty e i size ht hi v n xs hown c, by simpa using hown, World.grownBy.refl w _, .inl rfl⟩
  · have hcells : ∀ j u, news[j]? = some u → w.cell? (ad.add j) = some u := by
      intro j u hu
      rcases Nat.eq_zero_or_pos m with h0 | h0
      · subst h0
        have hn : news = [] := List.eq_nil_of_length_eq_zero (by simpa using hr.1)
        subst hn
        simp at hu
      · obtain ⟨ad', h, _, hc⟩ := hr.2 h0
        injection h with h
        subst h
        exact hc j u hu
    obtain ⟨v', w', hrun, h2, h3, _, h5⟩ := run_append_own_at (P := P) w base t ty e i z size bytes ht hi hz hsize hby hzs hsz v n xs hown ad m c news hr.1 hcells h1 h63 hbytes hbase
    exact ⟨v', w', hrun, h2, h3, h5⟩
theorem wp_append_any {o : Oper} {a : Act} {K : Act → World → Prop} {Q : Exit → Act → World → Prop} (s x : Operand) (t : TypeId)
    (ho : o.op = .call { callee := .builtin .append, args := #[s, x], argTypes := #[t, t] })
    (base : Nat) (e : TypeId) (i : TypeInfo) (z : Value) (size bytes : Nat) (ht : P.underlying t = some (.slice e)) (hi : P.info? e = some i) (hz : i.zero = some z)
    (hsize : i.size = size) (hby : i.bytes = bytes) (hzs : z.cells.size = size) (hsz : 0 < size)
    (v : Value) (n : Nat) (xs : List Value) (hs : a.eval s = v) (hown : w.ownsRow base e size v n xs)
    (B : Nat) (A : Option Addr) (m c : Nat) (news : List Value) (hx : a.eval x = .slice A m c) (hr : Reads w B size A m news) (h1 : ∀ u ∈ news, u.oneCell' = true)
    (h63 : n + m ≤ maxLen) (hbytes : (n + m) * bytes ≤ 140737488355328) (hbase : base ≤ w.heap.size)
    (h : ∀ v' w', w'.ownsRow base e size v' (n + m) (xs ++ news) → w.grownBy w' v.ownBlock → (v'.ownBlock = v.ownBlock ∨ v'.ownBlock = some w.heap.size) → K (a.put o.dst v') w') : o.wp P a w K Q := by
  obtain ⟨v', w', hrun, h2, h3, h4⟩ := run_append_any (P := P) w base t o.type e i z size bytes ht hi hz hsize hby hzs hsz v n xs hown B A m c news hr h1 h63 hbytes hbase
  unfold Oper.wp execOp
  simp only [ho, resolve, invoke, builtin, Sem.run_bind, Sem.run_pure, Result.andThen_ok, List.map_toArray, List.map_cons, List.map_nil, hs, hx, hrun]
  exact h v' w' h2 h3 h4
theorem wpList_append_any {ops : Array Oper} {rest : List Oper} {o : Oper} {a : Act} {Q : Exit → Act → World → Prop} (hgd : o.guard = none) (s x : Operand) (t : TypeId)
    (ho : o.op = .call { callee := .builtin .append, args := #[s, x], argTypes := #[t, t] })
    (base : Nat) (e : TypeId) (i : TypeInfo) (z : Value) (size bytes : Nat) (ht : P.underlying t = some (.slice e)) (hi : P.info? e = some i) (hz : i.zero = some z)
    (hsize : i.size = size) (hby : i.bytes = bytes) (hzs : z.cells.size = size) (hsz : 0 < size)
    (v : Value) (n : Nat) (xs : List Value) (hs : a.eval s = v) (hown : w.ownsRow base e size v n xs)
    (B : Nat) (A : Option Addr) (m c : Nat) (news : List Value) (hx : a.eval x = .slice A m c) (hr : Reads w B size A m news) (h1 : ∀ u ∈ news, u.oneCell' = true)
    (h63 : n + m ≤ maxLen) (hbytes : (n + m) * bytes ≤ 140737488355328) (hbase : base ≤ w.heap.size)
    (h : ∀ v' w', w'.ownsRow base e size v' (n + m) (xs ++ news) → w.grownBy w' v.ownBlock → (v'.ownBlock = v.ownBlock ∨ v'.ownBlock = some w.heap.size) → wpList P ops Q rest (a.put o.dst v') w') : wpList P ops Q (o :: rest) a w :=
  wpList_plain hgd fun _ hK => wp_append_any w s x t ho base e i z size bytes ht hi hz hsize hby hzs hsz v n xs hs hown B A m c news hx hr h1 h63 hbytes hbase fun v' w' h2 h3 h4 => hK _ _ (h v' w' h2 h3 h4)
theorem step_append_any {ops : Array Oper} {o : Oper} {a : Act} {K : Act → World → Prop} {Q : Exit → Act → World → Prop} {E : Prop} (hgd : o.guard = none) (s x : Operand) (t : TypeId)
    (ho : o.op = .call { callee := .builtin .append, args := #[s, x], argTypes := #[t, t] })
    (base : Nat) (e : TypeId) (i : TypeInfo) (z : Value) (size bytes : Nat) (ht : P.underlying t = some (.slice e)) (hi : P.info? e = some i) (hz : i.zero = some z)
    (hsize : i.size = size) (hby : i.bytes = bytes) (hzs : z.cells.size = size) (hsz : 0 < size)
    (v : Value) (n : Nat) (xs : List Value) (hs : a.eval s = v) (hown : w.ownsRow base e size v n xs)
    (B : Nat) (A : Option Addr) (m c : Nat) (news : List Value) (hx : a.eval x = .slice A m c) (hr : Reads w B size A m news) (h1 : ∀ u ∈ news, u.oneCell' = true)
    (h63 : n + m ≤ maxLen) (hbytes : (n + m) * bytes ≤ 140737488355328) (hbase : base ≤ w.heap.size)
    (h : ∀ v' w', w'.ownsRow base e size v' (n + m) (xs ++ news) → w.grownBy w' v.ownBlock → (v'.ownBlock = v.ownBlock ∨ v'.ownBlock = some w.heap.size) → K (a.put o.dst v') w') :
    if Region.wanted o (yielded ops a.tmps) = true then Oper.wp P o a w K Q else E := by
  have hw : Region.wanted o (yielded ops a.tmps) = true := by simp [Region.wanted, hgd]
  rw [if_pos hw]
  exact wp_append_any w s x t ho base e i z size bytes ht hi hz hsize hby hzs hsz v n xs hs hown B A m c news hx hr h1 h63 hbytes hbase h
end
theorem below_drewN {B : Nat} {a w : World} (h : Below B a w) (n : Nat) : Below B a (w.drewN n) := ⟨h.os, h.tape, h.output, h.size, h.block⟩
theorem only_drew {a w : World} {row : Option Nat} (h : a.grownBy w row) : a.grownBy w.drew row := ⟨h.os, h.tape, h.output, h.size, h.block⟩
theorem only_alloc {a w : World} {row : Option Nat} (h : a.grownBy w row) (o : Obj) : a.grownBy (w.alloc o) row :=
  ⟨h.os, h.tape, h.output, Nat.le_trans h.size (by simp), fun i hi hne => (Below.heap_alloc w o i (Nat.lt_of_lt_of_le hi h.size)).trans (h.block i hi hne)⟩
theorem only_setCell {a w : World} {g : Nat} (h : a.grownBy w (some g)) {p : Addr} (hp : p.block = g ∨ a.heap.size ≤ p.block) (u : Value) : a.grownBy (w.setCell p u) (some g) :=
  ⟨h.os, h.tape, h.output, by simpa [World.setCell] using h.size, fun i hi hne => (Below.heap_setCell w p u i (by
    rintro rfl
    rcases hp with hp | hp
    · exact hne (by rw [hp])
    · omega)).trans (h.block i hi hne)⟩
theorem only_of_below {a w : World} (h : Below a.heap.size a w) (row : Option Nat) : a.grownBy w row := ⟨h.os, h.tape, h.output, h.size, fun i hi _ => h.block i hi⟩
theorem grown_of_none {a w : World} (h : a.grownBy w none) (row : Option Nat) : a.grownBy w row := ⟨h.os, h.tape, h.output, h.size, fun i hi _ => h.block i hi (by simp)⟩
def EI (P : Program) (e : TypeId) (z : Value) (size bytes : Nat) : Prop := ∃ i, P.info? e = some i ∧ i.zero = some z ∧ i.size = size ∧ i.bytes = bytes
theorem EI.mk {P : Program} {e : TypeId} {z : Value} {size bytes : Nat} (h : (P.info? e).map (fun i => (i.zero, i.size, i.bytes)) = some (some z, size, bytes)) : EI P e z size bytes := by
  obtain ⟨i, h1, h2, h3, h4⟩ := info_parts h
  exact ⟨i, h1, h2, h3, h4⟩
section
variable {P : Program} {w : World}
theorem wpList_app1 {ops : Array Oper} {rest : List Oper} {o : Oper} {a : Act} {Q : Exit → Act → World → Prop} (hgd : o.guard = none) (s x : Operand) (t : TypeId)
    (ho : o.op = .call { callee := .builtin .append, args := #[s, x], argTypes := #[t, t] })
    {base : Nat} {e : TypeId} {z : Value} {size bytes : Nat} (hE : EI P e z size bytes) (ht : P.underlying t = some (.slice e)) (hzs : z.cells.size = size) (hsz : 0 < size)
    {v : Value} {n : Nat} {xs : List Value} (hs : a.eval s = v) (hown : w.ownsRow base e size v n xs)
    {cs : Array Value} {te : TypeId} {gx : Nat} (hx : a.eval x = .slice (some ⟨gx, 0, none⟩) 1 1) (hgx : gx = w.heap.size) (hl : cs.size = size) (h1 : ∀ u ∈ cs.toList, u.oneCell' = true)
    (hb63 : n + 1 ≤ maxLen) (hbytes : (n + 1) * bytes ≤ 140737488355328) (hbase : base ≤ w.heap.size)
    (h : ∀ v' w', w'.ownsRow base e size v' (n + 1) (xs ++ cs.toList) → w.grownBy w' v.ownBlock → Below base w w' → (v'.ownBlock = v.ownBlock ∨ ∃ g, v'.ownBlock = some g ∧ w.heap.size ≤ g) → v' ≠ .slice none 0 0 →
      wpList P ops Q rest (a.put o.dst v') w') : wpList P ops Q (o :: rest) a (w.alloc (.cells cs te)) := by
  obtain ⟨i, hi, hz0, hz1, hz2⟩ := hE
  subst hgx
  have hcell : ∀ j u, cs.toList[j]? = some u → (w.alloc (.cells cs te)).cell? ((⟨w.heap.size, 0, none⟩ : Addr).add j) = some u := by
    intro j u hu
    have e1 : ((⟨w.heap.size, 0, none⟩ : Addr).add j) = ⟨w.heap.size, j, none⟩ := by rw [Addr.add_lit]; simp
    rw [e1, (Blk.new w te cs).cell j]
    simpa using hu
  obtain ⟨v', w', hrun, h2, h3, h4, h5⟩ := run_append_own_at (P := P) (w.alloc (.cells cs te)) base t o.type e i z size bytes ht hi hz0 hz1 hz2 hzs hsz v n xs (hown.alloc _) ⟨w.heap.size, 0, none⟩ 1 1 cs.toList (by simp [hl]) hcell h1 hb63 hbytes (by simp; omega)
  have hg : w.grownBy w' v.ownBlock := (World.grownBy_alloc w _ _).trans h3
  refine wpList_plain hgd fun K hK => ?_
  unfold Oper.wp execOp
  simp only [ho, resolve, invoke, builtin, Sem.run_bind, Sem.run_pure, Result.andThen_ok, List.map_toArray, List.map_cons, List.map_nil, hs, hx, hrun]
  refine hK _ _ (h v' w' h2 hg ((Below.refl _ _).grown hg hbase fun k hk => ?_) ?_ fun hc => ?_)
  · exact (hown.lt k hk).1
  · rcases h5 with h5 | h5
    · exact .inl h5
    · exact .inr ⟨_, h5, by simp⟩
  · have := (h4.1 hc).2; omega
theorem step_app1 {ops : Array Oper} {o : Oper} {a : Act} {K : Act → World → Prop} {Q : Exit → Act → World → Prop} {E : Prop} (hgd : o.guard = none) (s x : Operand) (t : TypeId)
    (ho : o.op = .call { callee := .builtin .append, args := #[s, x], argTypes := #[t, t] })
    {base : Nat} {e : TypeId} {z : Value} {size bytes : Nat} (hE : EI P e z size bytes) (ht : P.underlying t = some (.slice e)) (hzs : z.cells.size = size) (hsz : 0 < size)
    {v : Value} {n : Nat} {xs : List Value} (hs : a.eval s = v) (hown : w.ownsRow base e size v n xs)
    {cs : Array Value} {te : TypeId} {gx : Nat} (hx : a.eval x = .slice (some ⟨gx, 0, none⟩) 1 1) (hgx : gx = w.heap.size) (hl : cs.size = size) (h1 : ∀ u ∈ cs.toList, u.oneCell' = true)
    (hb63 : n + 1 ≤ maxLen) (hbytes : (n + 1) * bytes ≤ 140737488355328) (hbase : base ≤ w.heap.size)
    (h : ∀ v' w', w'.ownsRow base e size v' (n + 1) (xs ++ cs.toList) → w.grownBy w' v.ownBlock → Below base w w' → K (a.put o.dst v') w') :
    if Region.wanted o (yielded ops a.tmps) = true then Oper.wp P o a (w.alloc (.cells cs te)) K Q else E := by
  have hw : Region.wanted o (yielded ops a.tmps) = true := by simp [Region.wanted, hgd]
  rw [if_pos hw]
  obtain ⟨i, hi, hz0, hz1, hz2⟩ := hE
  subst hgx
  have hcell : ∀ j u, cs.toList[j]? = some u → (w.alloc (.cells cs te)).cell? ((⟨w.heap.size, 0, none⟩ : Addr).add j) = some u := by
    intro j u hu
    have e1 : ((⟨w.heap.size, 0, none⟩ : Addr).add j) = ⟨w.heap.size, j, none⟩ := by rw [Addr.add_lit]; simp
    rw [e1, (Blk.new w te cs).cell j]
    simpa using hu
  obtain ⟨v', w', hrun, h2, h3, h4, h5⟩ := run_append_own_at (P := P) (w.alloc (.cells cs te)) base t o.type e i z size bytes ht hi hz0 hz1 hz2 hzs hsz v n xs (hown.alloc _) ⟨w.heap.size, 0, none⟩ 1 1 cs.toList (by simp [hl]) hcell h1 hb63 hbytes (by simp; omega)
  have hg : w.grownBy w' v.ownBlock := (World.grownBy_alloc w _ _).trans h3
  unfold Oper.wp execOp
  simp only [ho, resolve, invoke, builtin, Sem.run_bind, Sem.run_pure, Result.andThen_ok, List.map_toArray, List.map_cons, List.map_nil, hs, hx, hrun]
  exact h v' w' h2 hg ((Below.refl _ _).grown hg hbase fun k hk => (hown.lt k hk).1)
theorem wpList_appN {ops : Array Oper} {rest : List Oper} {o : Oper} {a : Act} {Q : Exit → Act → World → Prop} (hgd : o.guard = none) (s x : Operand) (t : TypeId)
    (ho : o.op = .call { callee := .builtin .append, args := #[s, x], argTypes := #[t, t] })
    {base : Nat} {e : TypeId} {z : Value} {size bytes : Nat} (hE : EI P e z size bytes) (ht : P.underlying t = some (.slice e)) (hzs : z.cells.size = size) (hsz : 0 < size)
    {v : Value} {n : Nat} {xs : List Value} (hs : a.eval s = v) (hown : w.ownsRow base e size v n xs)
    {B : Nat} {A : Option Addr} {m c : Nat} {news : List Value} (hx : a.eval x = .slice A m c) (hr : Reads w B size A m news) (h1 : ∀ u ∈ news, u.oneCell' = true)
    (h63 : n + m ≤ maxLen) (hbytes : (n + m) * bytes ≤ 140737488355328) (hbase : base ≤ w.heap.size)
    (h : ∀ v' w', w'.ownsRow base e size v' (n + m) (xs ++ news) → w.grownBy w' v.ownBlock → Below base w w' → wpList P ops Q rest (a.put o.dst v') w') : wpList P ops Q (o :: rest) a w := by
  obtain ⟨i, hi, hz0, hz1, hz2⟩ := hE
  refine wpList_append_any w hgd s x t ho base e i z size bytes ht hi hz0 hz1 hz2 hzs hsz v n xs hs hown B A m c news hx hr h1 h63 hbytes hbase fun v' w' h2 h3 _ => h v' w' h2 h3 ((Below.refl _ _).grown h3 hbase fun k hk => (hown.lt k hk).1)
def encB (b : UInt8) : Value := .int .u8 (b.toNat : Int)
theorem encB_ofNat (k : Nat) : encB (UInt8.ofNat k) = .int .u8 ((k % 256 : Nat) : Int) := by unfold encB; simp
theorem str_of_own {src dst e : TypeId} {base : Nat} {v : Value} {l : List UInt8} {n : Nat} (hs : P.underlying src = some (.slice e)) (he : P.underlying e = some (.int .u8)) (hd : P.underlying dst = some .string)
    (h : w.ownsRow base e 1 v n (l.map encB)) : (convert src dst v).run P w = .ok (.string ⟨l.toArray⟩) w := by
  have hn : l.length = n := by have := h.1; simpa using this
  rcases h.2 with ⟨rfl, h0⟩ | ⟨g, cap, cur, rfl, _⟩
  · subst h0
    have : l = [] := List.eq_nil_of_length_eq_zero hn
    subst this
    rw [run_convert_bytes_string w src dst e none 0 0 hs he hd]; rfl
  · subst hn
    refine run_convert_bytes_back w src dst e _ cap l hs he hd fun j hj => ?_
    have := h.cells (g := g) rfl j (encB l[j]) (by simp [hj])
    exact this
theorem str_of_new {src dst e : TypeId} (W : World) (x : Int) (te : TypeId) (c : Nat) (hs : P.underlying src = some (.slice e)) (he : P.underlying e = some (.int .u8)) (hd : P.underlying dst = some .string) :
    (convert src dst (.slice (some ⟨W.heap.size, 0, none⟩) 1 c)).run P (W.alloc (.cells #[.int .u8 x] te)) = .ok (.string ⟨[UInt8.ofNat x.toNat].toArray⟩) (W.alloc (.cells #[.int .u8 x] te)) := by
  rw [run_convert_bytes_string _ src dst e _ 1 c hs he hd]
  have hl := run_loadCells_list (P := P) (W.alloc (.cells #[.int .u8 x] te)) ⟨W.heap.size, 0, none⟩ ([x].map (Value.int .u8)) (fun j v hj => by
    have : j = 0 := by
      have := (List.getElem?_eq_some_iff.1 hj).1
      simp at this; omega
    subst this
    simp at hj
    subst hj
    rw [Addr.add_lit]
    exact (Blk.new W te #[.int .u8 x]).cell 0)
  rw [run_bytesToString _ _ 1 c [x] hl]
  rfl
theorem bytes_of_str {src dst e : TypeId} (W : World) (l : List UInt8) (hs : P.underlying src = some .string) (hd : P.underlying dst = some (.slice e)) (he : P.underlying e = some (.int .u8)) :
    ∃ cap W', (convert src dst (.string ⟨l.toArray⟩)).run P W = .ok (.slice (some ⟨W.heap.size, 0, none⟩) l.length cap) W' ∧ W.grownBy W' none ∧ (∀ (j : Nat) (hj : j < l.length), W'.cell? ⟨W.heap.size, j, none⟩ = some (.int .u8 (l[j].toNat : Int))) := by
  refine ⟨_, _, run_bytes_of_string W src dst e ⟨l.toArray⟩ hs hd he, ?_, fun j hj => ?_⟩
  · exact only_alloc (only_drew (World.grownBy.refl W none)) _
  · rw [show W.heap.size = W.drew.heap.size from rfl, World.cell?_alloc_mark, bytesRow_at _ _ _ (by simpa using hj)]
    simp
end
end Go.Proofs.YtpfplojkiloldaaGreatDoor
namespace Cp
def be : Nat → Nat → List UInt8
  | 0, _ => []
  | k + 1, n => be k (n / 256) ++ [UInt8.ofNat (n % 256)]
theorem be_length (k n : Nat) : (be k n).length = k := by
  induction k generalizing n with
  | zero => rfl
  | succ k ih => simp [be, ih]
def num (l : List UInt8) : Nat := l.foldl (fun n c => n * 256 + c.toNat) 0
theorem num_from (l : List UInt8) (n : Nat) : l.foldl (fun n c => n * 256 + c.toNat) n = n * 256 ^ l.length + num l := by
  induction l generalizing n with
  | nil => simp [num]
  | cons c l ih =>
    unfold num
    rw [List.foldl_cons, List.foldl_cons, ih, ih (0 * 256 + c.toNat), List.length_cons, Nat.pow_succ]
    rw [Nat.add_mul, Nat.zero_mul, Nat.zero_add, Nat.add_assoc, Nat.mul_assoc, Nat.mul_comm 256]
theorem num_append (a b : List UInt8) : num (a ++ b) = num a * 256 ^ b.length + num b := by
  show (a ++ b).foldl _ 0 = _
  rw [List.foldl_append, num_from]; rfl
theorem num_snoc (a : List UInt8) (c : UInt8) : num (a ++ [c]) = num a * 256 + c.toNat := by
  rw [num_append]; simp [num]
theorem num_lt (l : List UInt8) : num l < 256 ^ l.length := by
  have : ∀ (k : Nat) (l : List UInt8), l.length = k → num l < 256 ^ k := by
    intro k
    induction k with
    | zero => intro l h; have : l = [] := List.eq_nil_of_length_eq_zero h; subst this; simp [num]
    | succ k ih =>
      intro l h
      have hne : l ≠ [] := by rintro rfl; simp at h
      rw [← List.dropLast_concat_getLast hne, num_snoc]
      have h1 := ih l.dropLast (by simp [h])
      have h2 := (l.getLast hne).toNat_lt
      rw [Nat.pow_succ]
      omega
  exact this _ l rfl
theorem num_be (k n : Nat) : num (be k n) = n % 256 ^ k := by
  induction k generalizing n with
  | zero => simp [be, num, Nat.mod_one]
  | succ k ih =>
    rw [be, num_snoc, ih]
    have : (UInt8.ofNat (n % 256)).toNat = n % 256 := by simp
    rw [this, Nat.pow_succ, Nat.mul_comm (256 ^ k) 256, Nat.mod_mul]
    omega
theorem num_be_lt {k n : Nat} (h : n < 256 ^ k) : num (be k n) = n := by rw [num_be, Nat.mod_eq_of_lt h]
theorem be_getElem? (k n j : Nat) (h : j < k) : (be k n)[j]? = some (UInt8.ofNat (n / 256 ^ (k - 1 - j) % 256)) := by
  induction k generalizing n j with
  | zero => omega
  | succ k ih =>
    rw [be]
    by_cases hj : j < k
    · rw [List.getElem?_append_left (by rw [be_length]; exact hj), ih _ _ hj]
      have e : k + 1 - 1 - j = (k - 1 - j) + 1 := by omega
      rw [e, Nat.pow_succ, Nat.mul_comm (256 ^ _), Nat.div_div_eq_div_mul]
    · obtain rfl : j = k := by omega
      rw [List.getElem?_append_right (by rw [be_length]; omega), be_length]
      simp
theorem be_take_succ (k n j : Nat) (h : j < k) : (be k n).take (j + 1) = (be k n).take j ++ [UInt8.ofNat (n / 256 ^ (k - 1 - j) % 256)] := by
  rw [List.take_add_one, be_getElem? k n j h]; rfl
def sized (n : Int) : Bool := decide (n = 1) || decide (n = 2) || decide (n = 4)
def fits (k : Nat) (n : Int) : Bool := decide (0 ≤ n) && decide (n < (256 ^ k : Nat))
def putS (k : Nat) (n : Int) : List UInt8 := if fits k n then be k n.toNat else []
structure Rd where
  rest : List UInt8
  err : Int
def Rd.fail (r : Rd) (e : Int) : Rd := if r.err = 0 then { r with err := e } else r
def Rd.bytes (r : Rd) (n : Int) : List UInt8 × Rd :=
  let r1 := if n < 0 then r.fail 1 else if (r.rest.length : Int) < n then r.fail 10 else r
  if r1.err = 0 then (r1.rest.take n.toNat, { r1 with rest := r1.rest.drop n.toNat }) else ([], r1)
def Rd.int (r : Rd) (k : Nat) : Nat × Rd := (num (r.bytes k).1, (r.bytes k).2)
abbrev Run := Int × Int
def okRun (r : Run) : Bool := fits 4 r.1 && fits 4 r.2 && decide (r.1 ≤ r.2)
def runBytes (r : Run) : List UInt8 := be 4 r.1.toNat ++ be 4 r.2.toNat
def body (next : Int) (l : List Run) : Option (List UInt8) :=
  if fits 4 next && decide (l.length ≤ 29) && l.all okRun then some (be 4 next.toNat ++ be 2 l.length ++ l.flatMap runBytes) else none
def Rd.two (r : Rd) : Run × Rd := (((r.int 4).1, ((r.int 4).2.int 4).1), ((r.int 4).2.int 4).2)
def readRuns : Nat → Rd → List Run × Rd
  | 0, r => ([], r)
  | k + 1, r => (r.two.1 :: (readRuns k r.two.2).1, (readRuns k r.two.2).2)
def prog (s : List UInt8) : Option (Int × List Run) :=
  let r0 : Rd := ⟨s, 0⟩
  let next := (r0.int 4).1
  let n := ((r0.int 4).2.int 2).1
  let l := (readRuns (min n 29) ((r0.int 4).2.int 2).2).1
  if body next l = some s then some ((next : Int), l) else none
theorem bytes_ok {r : Rd} {k : Nat} (he : r.err = 0) (hk : k ≤ r.rest.length) : r.bytes k = (r.rest.take k, ⟨r.rest.drop k, 0⟩) := by
  have h1 : ¬ ((k : Int) < 0) := by omega
  have h2 : ¬ ((r.rest.length : Int) < (k : Int)) := by omega
  simp only [Rd.bytes, if_neg h1, if_neg h2, he, if_true, Int.toNat_natCast]
theorem int_ok {r : Rd} {k : Nat} (he : r.err = 0) (hk : k ≤ r.rest.length) : r.int k = (num (r.rest.take k), ⟨r.rest.drop k, 0⟩) := by
  unfold Rd.int; rw [bytes_ok he hk]
end Cp
namespace Go.Proofs.YtpfplojkiloldaaGreatDoor
open Go.RowKit
theorem sized_any (n : Int) (w : World) : Calls Tryz.prog 94 #[.int .i64 n] w fun e w' => e = .returned (.bool (n == 1 || n == 2 || n == 4)) ∧ w = w' := by
  go_enter Tryz.func94, Tryz.ntmps94
  go_wp2
  all_goals go_ret
  all_goals simp [*]
theorem sized_yes (n : Int) (h : n = 1 ∨ n = 2 ∨ n = 4) (w : World) : Calls Tryz.prog 94 #[.int .i64 n] w fun e w' => e = .returned (.bool true) ∧ w = w' := by
  refine (sized_any n w).mono fun e w' ⟨he, hw⟩ => ⟨?_, hw⟩
  rw [he]; rcases h with rfl | rfl | rfl <;> rfl
theorem eiByte : EI Tryz.prog 5 (.int .u8 0) 1 1 := EI.mk (by kernel_rfl)
theorem enc_step (k n j : Nat) (x : Int) (hj : j < k) (hx : x = ((n / 256 ^ (k - 1 - j) % 256 : Nat) : Int)) : ((Cp.be k n).take j).map encB ++ [Value.int .u8 x] = ((Cp.be k n).take (j + 1)).map encB := by
  rw [Cp.be_take_succ k n j hj, List.map_append, List.map_singleton, encB_ofNat, hx, Nat.mod_mod]
set_option maxRecDepth 100000 in
set_option maxHeartbeats 1000000 in
theorem put4_fits (n : Int) (w : World) (h0 : 0 ≤ n) (h1 : n < 4294967296) : Calls Tryz.prog 59 #[.int .i64 4, .int .i64 n] w fun e w' => e = .returned (.tuple #[.string ⟨(Cp.be 4 n.toNat).toArray⟩, .int .i64 0]) ∧ Below w.heap.size w w' := by
  have h2 : n / 4294967296 = 0 := by omega
  go_enter Tryz.func59, Tryz.ntmps59
  go_wp2_with (go_at_call 94; refine (sized_yes _ (by omega) _).mono ?_; rintro e w' ⟨rfl, rfl⟩)
  go_loopw [6, 7] (fun v i wr => ∃ j : Nat, j ≤ 4 ∧ i = .int .i64 (3 - j : Int) ∧ wr.ownsRow w.heap.size 5 1 v j (((Cp.be 4 n.toNat).take j).map encB) ∧ Below w.heap.size w wr) (fun _ i _ => (intOf i + 1).toNat)
  case atStart => exact ⟨0, by omega, rfl, World.ownsRow_nil _ _ _ _, Below.refl _ _⟩
  case round =>
    obtain ⟨j, hj, rfl, hown, hb⟩ := hrel
    rcases (show j = 0 ∨ j = 1 ∨ j = 2 ∨ j = 3 ∨ j = 4 by omega) with rfl | rfl | rfl | rfl | rfl
    · go_wp2_with (at_builtin; refine wpList_app1 rfl _ _ 156 rfl eiByte Tryz.underlying156 rfl (by decide) rfl hown rfl (by simp) rfl (by simp [Value.oneCell']) (by decide) (by decide) hb.size ?_; intro v' w1 hown' hgrow hbel _ _)
      go_roundw
      case rel => exact ⟨1, by omega, by go_num, by rw [← enc_step 4 n.toNat 0 (n / 16777216) (by omega) (by simp; omega)]; exact hown', hb.trans (hbel.mono (Nat.le_refl _))⟩
      case measure => simp [intOf]
    · go_wp2_with (at_builtin; refine wpList_app1 rfl _ _ 156 rfl eiByte Tryz.underlying156 rfl (by decide) rfl hown rfl (by simp) rfl (by simp [Value.oneCell']) (by decide) (by decide) hb.size ?_; intro v' w1 hown' hgrow hbel _ _)
      go_roundw
      case rel => exact ⟨2, by omega, by go_num, by rw [← enc_step 4 n.toNat 1 (n / 65536 % 256) (by omega) (by simp; omega)]; exact hown', hb.trans (hbel.mono (Nat.le_refl _))⟩
      case measure => simp [intOf]
    · go_wp2_with (at_builtin; refine wpList_app1 rfl _ _ 156 rfl eiByte Tryz.underlying156 rfl (by decide) rfl hown rfl (by simp) rfl (by simp [Value.oneCell']) (by decide) (by decide) hb.size ?_; intro v' w1 hown' hgrow hbel _ _)
      go_roundw
      case rel => exact ⟨3, by omega, by go_num, by rw [← enc_step 4 n.toNat 2 (n / 256 % 256) (by omega) (by simp; omega)]; exact hown', hb.trans (hbel.mono (Nat.le_refl _))⟩
      case measure => simp [intOf]
    · go_wp2_with (at_builtin; refine wpList_app1 rfl _ _ 156 rfl eiByte Tryz.underlying156 rfl (by decide) rfl hown rfl (by simp) rfl (by simp [Value.oneCell']) (by decide) (by decide) hb.size ?_; intro v' w1 hown' hgrow hbel _ _)
      go_roundw
      case rel => exact ⟨4, by omega, by go_num, by rw [← enc_step 4 n.toNat 3 (n % 256) (by omega) (by simp; omega)]; exact hown', hb.trans (hbel.mono (Nat.le_refl _))⟩
      case measure => simp [intOf]
    · rw [List.take_of_length_le (by rw [Cp.be_length]; omega)] at hown
      have hst := str_of_own (P := Tryz.prog) Tryz.underlying156 Tryz.underlying5 Tryz.underlying9 hown
      clear hown
      go_wp2
      go_ret2
      exact ⟨rfl, hb⟩
end Go.Proofs.YtpfplojkiloldaaGreatDoor
namespace Go.Proofs.YtpfplojkiloldaaGreatDoor
open Go.RowKit
def rdCells (r : Cp.Rd) : Array Value := #[.string ⟨r.rest.toArray⟩, .int .i64 r.err]
set_option maxRecDepth 100000 in
theorem fail_any (g : Nat) (r : Cp.Rd) (x : Int) (w : World) (h : Blk w g 223 (rdCells r)) :
    Calls Tryz.prog 159 #[.pointer (some ⟨g, 0, none⟩), .int .i64 x] w fun e w' => e = .returned (.tuple #[]) ∧ Blk w' g 223 (rdCells (r.fail x)) ∧ w.grownBy w' (some g) := by
  have h1 := h.cell 1
  have f1 := h.frozen 1
  simp only [rdCells] at h1
  by_cases hr : r.err = 0
  · rw [Cp.Rd.fail, if_pos hr]
    rw [hr] at h1
    have hb := h.set_ 1 (.int .i64 x)
    have hg : w.grownBy (w.setCell ⟨g, 1, none⟩ (.int .i64 x)) (some g) := only_setCell (p := ⟨g, 1, none⟩) (World.grownBy.refl w (some g)) (.inl rfl) _
    clear h hr
    go_enter Tryz.func159, Tryz.ntmps159
    go_wp2
    go_end0
    exact ⟨rfl, hb, hg⟩
  · rw [Cp.Rd.fail, if_neg hr]
    have hr' : (r.err == 0) = false := by simpa using hr
    clear hr
    go_enter Tryz.func159, Tryz.ntmps159
    go_wp2
    go_end0
    exact ⟨rfl, h, World.grownBy.refl _ _⟩
theorem read_any (s : List UInt8) (w : World) : Calls Tryz.prog 122 #[.string ⟨s.toArray⟩] w fun e w' => e = .returned (.pointer (some ⟨w.heap.size, 0, none⟩)) ∧ w' = w.alloc (.cells (rdCells ⟨s, 0⟩) 223) := by
  go_enter Tryz.func122, Tryz.ntmps122
  go_wp2
  go_ret
  exact ⟨rfl, rfl⟩
theorem extract_take (l : List UInt8) (n : Nat) : ByteArray.extract ⟨l.toArray⟩ 0 n = ⟨(l.take n).toArray⟩ := by
  apply ByteArray.ext; simp
theorem extract_drop (l : List UInt8) (n : Nat) : ByteArray.extract ⟨l.toArray⟩ n l.length = ⟨(l.drop n).toArray⟩ := by
  apply ByteArray.ext; simp
  rw [List.take_of_length_le (by simp)]
set_option maxRecDepth 100000 in
set_option maxHeartbeats 400000 in
theorem bytes_any (g : Nat) (r : Cp.Rd) (n : Int) (w : World) (h : Blk w g 223 (rdCells r)) :
    Calls Tryz.prog 160 #[.pointer (some ⟨g, 0, none⟩), .int .i64 n] w fun e w' => e = .returned (.string ⟨(r.bytes n).1.toArray⟩) ∧ Blk w' g 223 (rdCells (r.bytes n).2) ∧ w.grownBy w' (some g) := by
  have h0 := h.cell 0
  have h1 := h.cell 1
  have f1 := h.frozen 0
  simp only [rdCells] at h0 h1
  by_cases hn : n < 0
  · have hb : r.bytes n = (if (r.fail 1).err = 0 then ((r.fail 1).rest.take n.toNat, { r.fail 1 with rest := (r.fail 1).rest.drop n.toNat }) else ([], r.fail 1)) := by simp only [Cp.Rd.bytes, if_pos hn]
    have he : (r.fail 1).err ≠ 0 := by unfold Cp.Rd.fail; split <;> simp_all
    rw [if_neg he] at hb
    rw [hb]
    have he' : ((r.fail 1).err == 0) = false := by simpa using he
    clear hb he
    generalize hr : r.fail 1 = r' at *
    have HR := Lib.hid hr
    clear hr
    go_enter Tryz.func160, Tryz.ntmps160
    go_wp2_with (go_at_call 159; refine (fail_any g r 1 w h).mono ?_; rintro e w' ⟨rfl, hB, hg⟩; rw [HR.out] at hB; have g1 := hB.cell 1; simp only [rdCells] at g1)
    go_ret
    exact ⟨rfl, hB, hg⟩
  · by_cases hm : (r.rest.length : Int) < n
    · have hb : r.bytes n = (if (r.fail 10).err = 0 then ((r.fail 10).rest.take n.toNat, { r.fail 10 with rest := (r.fail 10).rest.drop n.toNat }) else ([], r.fail 10)) := by simp only [Cp.Rd.bytes, if_neg hn, if_pos hm]
      have he : (r.fail 10).err ≠ 0 := by unfold Cp.Rd.fail; split <;> simp_all
      rw [if_neg he] at hb
      rw [hb]
      have he' : ((r.fail 10).err == 0) = false := by simpa using he
      clear hb he
      generalize hr : r.fail 10 = r' at *
      have HR := Lib.hid hr
      clear hr
      go_enter Tryz.func160, Tryz.ntmps160
      go_wp2_with (go_at_call 159; refine (fail_any g r 10 w h).mono ?_; rintro e w' ⟨rfl, hB, hg⟩; rw [HR.out] at hB; have g1 := hB.cell 1; simp only [rdCells] at g1)
      go_ret
      exact ⟨rfl, hB, hg⟩
    · obtain ⟨k, rfl⟩ := Int.eq_ofNat_of_zero_le (show 0 ≤ n by omega)
      have hk : k ≤ r.rest.length := by omega
      by_cases he : r.err = 0
      · rw [Cp.bytes_ok he hk]
        have hb : Blk (w.setCell ⟨g, 0, none⟩ (.string ⟨(r.rest.drop k).toArray⟩)) g 223 (rdCells ⟨r.rest.drop k, 0⟩) := by
          have := h.set_ 0 (.string ⟨(r.rest.drop k).toArray⟩)
          simpa [rdCells, he] using this
        have hg : w.grownBy (w.setCell ⟨g, 0, none⟩ (.string ⟨(r.rest.drop k).toArray⟩)) (some g) := only_setCell (p := ⟨g, 0, none⟩) (World.grownBy.refl w (some g)) (.inl rfl) _
        rw [he] at h1
        have HB := Lib.hid hb
        have HG := Lib.hid hg
        clear hb hg h he
        go_enter Tryz.func160, Tryz.ntmps160
        go_wp2
        rw [extract_drop]
        go_ret
        exact ⟨by rw [← extract_take]; rfl, HB.out, HG.out⟩
      · have hb : r.bytes k = ([], r) := by
          have e1 : ¬ ((k : Int) < 0) := by omega
          simp only [Cp.Rd.bytes, if_neg e1, if_neg hm, if_neg he]
        rw [hb]
        have he' : (r.err == 0) = false := by simpa using he
        clear hb he
        go_enter Tryz.func160, Tryz.ntmps160
        go_wp2
        go_ret
        exact ⟨rfl, h, World.grownBy.refl _ _⟩
end Go.Proofs.YtpfplojkiloldaaGreatDoor
namespace Go.Proofs.YtpfplojkiloldaaGreatDoor
open Go.RowKit
theorem ofInt_i64 (a : Nat) (ha : a < 9223372036854775808) : (BitVec.ofInt 64 (a : Int)).toNat = a := by
  rw [BitVec.ofInt_natCast, BitVec.toNat_ofNat]; exact Nat.mod_eq_of_lt (by omega)
theorem i64_or_nat (a b : Nat) (ha : a < 9223372036854775808) (hb : b < 9223372036854775808) : bits .or .i64 (a : Int) (b : Int) = ((a ||| b : Nat) : Int) := by
  have hx : a ||| b < 2 ^ 63 := Nat.or_lt_two_pow (by omega) (by omega)
  show IntKind.i64.wrap ((BitVec.ofInt 64 (a : Int) ||| BitVec.ofInt 64 (b : Int)).toNat : Int) = _
  rw [BitVec.toNat_or, ofInt_i64 a ha, ofInt_i64 b hb, IntKind.wrap_i64]
  omega
theorem nat_or_byte (a b : Nat) (hb : b < 256) : a * 256 ||| b = a * 256 + b := by
  have h := Nat.shiftLeft_add_eq_or_of_lt (i := 8) (b := b) hb a
  rw [Nat.shiftLeft_eq] at h
  exact h.symm
theorem or_byte (a b : Nat) (ha : a ≤ 16777215) (hb : b < 256) : bits .or .i64 ((a : Int) * 256) (b : Int) = ((a * 256 + b : Nat) : Int) := by
  have h := i64_or_nat (a * 256) b (by omega) (by omega)
  rw [nat_or_byte a b hb] at h
  rw [← h, Int.natCast_mul]
  rfl
theorem num_take_succ (l : List UInt8) (j : Nat) (hj : j < l.length) : Cp.num (l.take (j + 1)) = Cp.num (l.take j) * 256 + l[j].toNat := by
  rw [List.take_succ_eq_append_getElem hj, Cp.num_snoc]
theorem num_small (l : List UInt8) (j : Nat) (hj : j < l.length) (hl : l.length ≤ 4) : Cp.num (l.take j) ≤ 16777215 := by
  have h := Cp.num_lt (l.take j)
  have h2 : (l.take j).length ≤ 3 := by simp; omega
  have h3 : 256 ^ (l.take j).length ≤ 256 ^ 3 := Nat.pow_le_pow_right (by omega) h2
  omega
theorem bytes_len_le (r : Cp.Rd) (k : Nat) : (r.bytes k).1.length ≤ k := by
  unfold Cp.Rd.bytes
  simp only
  generalize (if (k : Int) < 0 then r.fail 1 else if (r.rest.length : Int) < k then r.fail 10 else r) = x
  split
  · simp; omega
  · simp
set_option maxRecDepth 100000 in
set_option maxHeartbeats 400000 in
theorem int_any (g : Nat) (r : Cp.Rd) (k : Nat) (w : World) (h : Blk w g 223 (rdCells r)) (hk : k = 1 ∨ k = 2 ∨ k = 4) :
    Calls Tryz.prog 123 #[.pointer (some ⟨g, 0, none⟩), .int .i64 k] w fun e w' => e = .returned (.int .i64 (r.int k).1) ∧ Blk w' g 223 (rdCells (r.int k).2) ∧ w.grownBy w' (some g) := by
  unfold Cp.Rd.int
  have hlen : (r.bytes k).1.length ≤ 4 := by have := bytes_len_le r k; omega
  have hb0 := bytes_any g r k w h
  have hglt := h.lt
  generalize hl : (r.bytes k).1 = l at *
  generalize hr : (r.bytes k).2 = r' at *
  have HL := Lib.hid hl
  have HR := Lib.hid hr
  have HB := Lib.hid hb0
  clear hl hr hb0
  go_enter Tryz.func123, Tryz.ntmps123
  go_wp2_with (first | (go_at_call 94; refine (sized_yes _ (by omega) _).mono ?_; rintro e w' ⟨rfl, rfl⟩) | (go_at_call 160; refine HB.out.mono ?_; rintro e w1 ⟨rfl, hB, hg⟩; obtain ⟨cap, w2, hrun, hg2, hcells⟩ := bytes_of_str (P := Tryz.prog) w1 l Tryz.underlying9 Tryz.underlying156 Tryz.underlying5))
  go_loop [5, 18] (fun n i => ∃ j : Nat, j ≤ l.length ∧ i = .int .i64 j ∧ n = .int .i64 (Cp.num (l.take j))) (fun _ i => l.length - (intOf i).toNat)
  case atStart => exact ⟨0, by omega, rfl, rfl⟩
  case round =>
    obtain ⟨j, hj, rfl, rfl⟩ := hrel
    by_cases hlt : j < l.length
    · have hc := hcells j hlt
      have hnx := num_take_succ l j hlt
      have hb24 := num_small l j hlt hlen
      have hb8 := l[j].toNat_lt
      have HNX := Lib.hid hnx
      clear hnx hcells
      go_wp2
      exact ⟨⟨j + 1, by omega, by go_num, by rw [or_byte _ _ hb24 hb8, HNX.out]⟩, by simp [intOf]; omega⟩
    · clear hcells
      go_wp2
      go_ret
      refine ⟨?_, ?_, ?_⟩
      · rw [List.take_of_length_le (by omega)]; rfl
      · have := hB.grown hg2 (by simp); exact this
      · exact hg.trans (grown_of_none hg2 _)
end Go.Proofs.YtpfplojkiloldaaGreatDoor
namespace Go.Proofs.YtpfplojkiloldaaGreatDoor
open Go.RowKit
structure Enc (α : Type) where
  enc : α → List Value
  size : Nat
  len : ∀ x, (enc x).length = size
  pos : 0 < size
  one : ∀ x, ∀ u ∈ enc x, u.oneCell' = true
section
variable {α : Type} {E : Enc α} {w w' : World} {B : Nat} {A : Option Addr} {l : List α}
def Enc.cells (E : Enc α) (l : List α) : List Value := l.flatMap E.enc
theorem Enc.cells_length (E : Enc α) (l : List α) : (E.cells l).length = l.length * E.size := by
  induction l with
  | nil => simp [Enc.cells]
  | cons r l ih => unfold Enc.cells at *; rw [List.flatMap_cons, List.length_append, ih, List.length_cons, E.len, Nat.succ_mul]; omega
theorem Enc.cells_append (E : Enc α) (a b : List α) : E.cells (a ++ b) = E.cells a ++ E.cells b := by unfold Enc.cells; rw [List.flatMap_append]
theorem Enc.cells_one (E : Enc α) (x : α) : E.cells [x] = E.enc x := by simp [Enc.cells]
theorem Enc.cells_snoc (E : Enc α) (l : List α) (x : α) : E.cells (l ++ [x]) = E.cells l ++ E.enc x := by rw [E.cells_append, E.cells_one]
theorem Enc.cells_cons (E : Enc α) (x : α) (l : List α) : E.cells (x :: l) = E.enc x ++ E.cells l := by unfold Enc.cells; rw [List.flatMap_cons]
theorem Enc.cells_at (E : Enc α) (l : List α) (k : Nat) (hk : k < l.length) (j : Nat) (hj : j < E.size) : (E.cells l)[k * E.size + j]? = (E.enc l[k])[j]? := by
  induction l generalizing k with
  | nil => simp at hk
  | cons r l ih =>
    rw [E.cells_cons]
    cases k with
    | zero => rw [Nat.zero_mul, Nat.zero_add, List.getElem?_append_left (by rw [E.len]; exact hj)]; rfl
    | succ k =>
      have := ih k (by simpa using hk)
      rw [List.getElem?_append_right (by rw [E.len, Nat.succ_mul]; omega), E.len, Nat.succ_mul, show k * E.size + E.size + j - E.size = k * E.size + j by omega, this]
      rfl
theorem Enc.cells_all (E : Enc α) (l : List α) : ∀ u ∈ E.cells l, u.oneCell' = true := by
  intro u hu
  unfold Enc.cells at hu
  obtain ⟨r, _, hr⟩ := List.mem_flatMap.1 hu
  exact E.one r u hr
theorem Enc.cells_drop (E : Enc α) (l : List α) (k : Nat) : (E.cells l).drop (k * E.size) = E.cells (l.drop k) := by
  induction l generalizing k with
  | nil => simp [Enc.cells]
  | cons r l ih =>
    cases k with
    | zero => simp
    | succ k =>
      rw [E.cells_cons, Nat.succ_mul, List.drop_append, E.len, List.drop_of_length_le (by rw [E.len]; omega), List.nil_append, show k * E.size + E.size - E.size = k * E.size by omega, ih]
      rfl
theorem Enc.cells_take (E : Enc α) (l : List α) (k : Nat) : (E.cells l).take (k * E.size) = E.cells (l.take k) := by
  induction l generalizing k with
  | nil => simp [Enc.cells]
  | cons r l ih =>
    cases k with
    | zero => simp [Enc.cells]
    | succ k =>
      rw [E.cells_cons, Nat.succ_mul, List.take_append, E.len, List.take_of_length_le (by rw [E.len]; omega), show k * E.size + E.size - E.size = k * E.size by omega, ih, ← E.cells_cons]
      rfl
def LS (E : Enc α) (w : World) (B : Nat) (A : Option Addr) (l : List α) : Prop := Reads w B E.size A l.length (E.cells l)
theorem LS.at_ (h : LS E w B A l) {k : Nat} (hk : k < l.length) : ∃ b off, A = some ⟨b, off, none⟩ ∧ b < B ∧ ∀ j, j < E.size → w.cell? ⟨b, off + k * E.size + j, none⟩ = (E.enc l[k])[j]? := by
  obtain ⟨ad, rfl, hb, hc⟩ := h.2 (by omega)
  obtain ⟨b, off, spot⟩ := ad
  have hs : spot = none := by
    have h0 := E.cells_at l 0 (by omega) 0 E.pos
    rw [List.getElem?_eq_getElem (l := E.enc (l[0]'(by omega))) (by rw [E.len]; exact E.pos)] at h0
    have := hc _ _ h0
    simpa [Addr.add] using World.cell?_spot this
  subst hs
  refine ⟨b, off, rfl, hb, fun j hj => ?_⟩
  have h0 := E.cells_at l k hk j hj
  rw [List.getElem?_eq_getElem (l := E.enc l[k]) (by rw [E.len]; exact hj)] at h0
  have := hc _ _ h0
  rw [Addr.add_lit] at this
  rw [Nat.add_assoc, this, ← h0, E.cells_at l k hk j hj]
theorem LS.below (h : LS E w B A l) (hb : Below B w w') : LS E w' B A l := Reads.below h hb
theorem LS.more {B' : Nat} (h : LS E w B A l) (hB : B ≤ B') : LS E w B' A l := Reads.more h hB
theorem LS.up (h : LS E w w.heap.size A l) (hb : Below w.heap.size w w') : LS E w' w'.heap.size A l := (h.below hb).more hb.size
theorem LS.nil_ : LS E w B A [] := ⟨by simp [Enc.cells], fun h => absurd h (by simp)⟩
theorem LS.cut (h : LS E w B A l) {k cap : Nat} (hk : k ≤ l.length) (hc : l.length ≤ cap) : LS E w B (if cap = k then A else A.map (·.add (k * E.size))) (l.drop k) := by
  have := Reads.cut (size := E.size) h hk hc
  unfold LS
  rw [List.length_drop, ← E.cells_drop]
  exact this
theorem LS.take_ (h : LS E w B A l) (k : Nat) : LS E w B A (l.take k) := by
  unfold LS
  refine ⟨E.cells_length _, fun hn => ?_⟩
  obtain ⟨ad, e, hb, hc⟩ := h.2 (by rw [List.length_take] at hn; omega)
  refine ⟨ad, e, hb, fun j u hu => hc j u ?_⟩
  rw [← E.cells_take] at hu
  rw [List.getElem?_take] at hu
  split at hu
  · exact hu
  · cases hu
def LO (E : Enc α) (ty : TypeId) (w : World) (base : Nat) (v : Value) (l : List α) : Prop := w.ownsRow base ty E.size v l.length (E.cells l)
section
variable {ty : TypeId} {base : Nat} {v : Value}
theorem LO.nil_ (w : World) (base : Nat) : LO E ty w base (.slice none 0 0) [] := World.ownsRow_nil _ _ _ _
theorem LO.raw (h : LO E ty w base v l) {n s : Nat} (hn : l.length = n) (hs : E.size = s) : w.ownsRow base ty s v n (E.cells l) := by subst hn hs; exact h
theorem LO.form (h : LO E ty w base v l) : ∃ A c, v = .slice A l.length c := by
  rcases h.2 with ⟨rfl, h0⟩ | ⟨g, cap, cur, rfl, _⟩
  · exact ⟨none, 0, by rw [h0]⟩
  · exact ⟨_, _, rfl⟩
theorem LO.ls {n c : Nat} (h : LO E ty w base (.slice A n c) l) : LS E w w.heap.size A l := by
  obtain ⟨A', c', e⟩ := h.form
  injection e with e1 e2 e3
  subst e1 e2
  exact Reads.of_own h
theorem own_lower {e size n : Nat} {xs : List Value} {base' : Nat} (h : w.ownsRow base e size v n xs) (hb : base' ≤ base) : w.ownsRow base' e size v n xs := by
  refine ⟨h.1, ?_⟩
  rcases h.2 with h0 | ⟨g, cap, cur, h1, h2, h3⟩
  · exact .inl h0
  · exact .inr ⟨g, cap, cur, h1, Nat.le_trans hb h2, h3⟩
theorem own_below {e size n : Nat} {xs : List Value} (h : w.ownsRow base e size v n xs) (hb : Below w.heap.size w w') : w'.ownsRow base e size v n xs := by
  refine ⟨h.1, ?_⟩
  rcases h.2 with h0 | ⟨g, cap, cur, h1, h2, h3, h4⟩
  · exact .inl h0
  · refine .inr ⟨g, cap, cur, h1, h2, ?_, h4⟩
    rw [hb.block g ?_]; exact h3
    rcases Nat.lt_or_ge g w.heap.size with hlt | hge
    · exact hlt
    · rw [Array.getElem?_eq_none hge] at h3; cases h3
theorem own_form {e size n : Nat} {xs : List Value} (h : w.ownsRow base e size v n xs) : ∃ A c, v = .slice A n c := by
  rcases h.2 with ⟨rfl, h0⟩ | ⟨g, cap, cur, rfl, _⟩
  · exact ⟨none, 0, by rw [h0]⟩
  · exact ⟨_, _, rfl⟩
theorem LO.below (h : LO E ty w base v l) (hb : Below w.heap.size w w') : LO E ty w' base v l := own_below h hb
theorem LO.lower {base' : Nat} (h : LO E ty w base v l) (hb : base' ≤ base) : LO E ty w base' v l := own_lower h hb
theorem LO.alloc (h : LO E ty w base v l) (o : Obj) : LO E ty (w.alloc o) base v l := World.ownsRow.alloc h o
theorem LO.drewN (h : LO E ty w base v l) (n : Nat) : LO E ty (w.drewN n) base v l := h
theorem LO.snoc {x : α} {cs : List Value} {n s : Nat} (hn : l.length = n) (hs : E.size = s) (hc : cs = E.enc x) (h : w.ownsRow base ty s v (n + 1) (E.cells l ++ cs)) : LO E ty w base v (l ++ [x]) := by
  subst hn hs hc
  unfold LO
  rw [List.length_append, E.cells_snoc]
  exact h
theorem LO.keep {row : Option Nat} (h : LO E ty w base v l) (hg : w.grownBy w' row) (hr : ∀ r, row = some r → ∃ o, w.heap[r]? = some o ∧ ∀ cs, o ≠ .cells cs ty (0, 0)) : LO E ty w' base v l := by
  rcases h with ⟨h1, h2 | ⟨g, cap, cur, hv, hb, hh, r⟩⟩
  · exact ⟨h1, .inl h2⟩
  · refine ⟨h1, .inr ⟨g, cap, cur, hv, hb, (hg.block g (Array.getElem?_eq_some_iff.1 hh).1 ?_).trans hh, r⟩⟩
    intro e
    obtain ⟨o, ho, hne⟩ := hr g e.symm
    rw [hh] at ho; cases ho
    exact hne cur rfl
def LEnd (E : Enc α) (ty : TypeId) (o : List α) (w : World) (e : Ending) (w' : World) : Prop := ∃ v, e = .returned v ∧ LO E ty w' w.heap.size v o ∧ Below w.heap.size w w'
theorem LEnd.open_ {e : Ending} (h : LEnd E ty l w e w') : ∃ A c, e = .returned (.slice A l.length c) ∧ LO E ty w' w.heap.size (.slice A l.length c) l ∧ LS E w' w'.heap.size A l ∧ Below w.heap.size w w' := by
  obtain ⟨v, rfl, ho, hb⟩ := h
  obtain ⟨A, c, rfl⟩ := ho.form
  exact ⟨A, c, rfl, ho, ho.ls, hb⟩
end
end
theorem own_obj {w : World} {base e size c : Nat} {v : Value} {xs : List Value} (h : w.ownsRow base e size v c xs) {r : Nat} (hr : v.ownBlock = some r) : ∃ cs, w.heap[r]? = some (.cells cs e (0, 0)) := by
  rcases h.2 with ⟨rfl, _⟩ | ⟨g, cap, cur, rfl, _, h3, _⟩
  · simp [Value.ownBlock] at hr
  · simp [Value.ownBlock] at hr; subst hr; exact ⟨_, h3⟩
theorem keep_row {w w' : World} {base e size c : Nat} {v : Value} {xs : List Value} (h : w.ownsRow base e size v c xs) {base2 e2 size2 c2 : Nat} {v2 : Value} {xs2 : List Value} (h2 : w.ownsRow base2 e2 size2 v2 c2 xs2) (hne : e ≠ e2) (hg : w.grownBy w' v2.ownBlock) : w'.ownsRow base e size v c xs := by
  refine ⟨h.1, ?_⟩
  rcases h.2 with h0 | ⟨g, cap, cur, g1, g2, g3, g4⟩
  · exact .inl h0
  · refine .inr ⟨g, cap, cur, g1, g2, ?_, g4⟩
    rw [hg.block g (Array.getElem?_eq_some_iff.1 g3).1 ?_]; exact g3
    intro hr
    obtain ⟨cs, hcs⟩ := own_obj h2 hr.symm
    rw [g3] at hcs
    injection hcs with hcs; injection hcs with _ hcs; exact hne hcs
theorem LO.set_ {w : World} {base g : Nat} {α : Type} {E : Enc α} {ty ty' : TypeId} {cs : Array Value} {v : Value} {l : List α} {i : Nat} {u : Value} (h : LO E ty w base v l) (hB : Blk w g ty' cs) (hne : ty' ≠ ty) : LO E ty (w.setCell ⟨g, i, none⟩ u) base v l :=
  h.keep (only_setCell (World.grownBy.refl w (some g)) (.inl rfl) u) fun r e => by
    cases e; exact ⟨_, hB, fun cs e => by injection e with _ e; exact hne e⟩
end Go.Proofs.YtpfplojkiloldaaGreatDoor
