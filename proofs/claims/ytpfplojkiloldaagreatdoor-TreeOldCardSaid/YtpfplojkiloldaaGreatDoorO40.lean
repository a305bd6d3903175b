/- Part of this proof. -/
import Derived.Deep.Slices
import Derived.Deep.Fields
import Derived.ChangeSame
import Derived.ProofKit
import Derived.SliceStrings
import Derived.LaidMore
import Derived.Lay
import Derived.OpenShut
import Derived.Test.YtpfplojkiloldaaGreatDoorO36
import Derived.Test.YtpfplojkiloldaaGreatDoorO39
import Derived.Test.YtpfplojkiloldaaGreatDoorRows
set_option maxRecDepth 100000
set_option maxHeartbeats 8000000
namespace Go.Proofs.YtpfplojkiloldaaGreatDoor
open Go.RowKit Go.ChangeShapes Go.WideShapes Go.Deep
section
variable {H : Type} {enc : TypeId × Value -> H} {P : Program} {w : World} {base : Nat} {spare : Nat -> Bool} {held : Bool}
theorem open_slice_fields {t e : TypeId} {fs : Array Field} {fuel : Nat} {cs : List Value} {x : DataW H × List MemPlace} (ht : P.underlying t = some (.slice e)) (he : P.underlying e = some (.struct fs))
   (hone : oneCellFields P fs = true) (hC : P.cellsOf e = fs.size) (h : DataW.trod enc P w base spare held fuel t cs = some x) :
   (cs = [.slice none 0 0] /\ x = (.nil, [])) \/
   ∃ (a : Addr) (len cap m : Nat) (D : Nat -> DataW H) (Pl : Nat -> List MemPlace), cs = [.slice (some a) len cap] /\ base <= a.block /\ len <= cap /\ cap <= maxLen /\ m = (if spare a.block then cap else len) /\
     x = (.slice ((List.range len).map D) ((List.range (m - len)).map fun j => D (len + j)), MemPlace.row a (m * fs.size) ++ (List.range m).flatMap Pl) /\
     ∀ i, i < m -> ∃ (ys : List (DataW H × List MemPlace)) (n : Nat), D i = .agg (ys.map (·.1)) /\ Pl i = ys.flatMap (·.2) /\ ys.length = fs.size /\
       ∀ (j : Nat) (f : Field), fs[j]? = some f -> ∃ (v : Value) (y : DataW H × List MemPlace), w.cell? (a.add (i * fs.size + j)) = some v /\ ys[j]? = some y /\ DataW.trod enc P w base spare held n f.type [v] = some y := by
 rcases open_slice ht h with h0 | ⟨a, len, cap, m, n, D, Pl, hcs, hb, hl, hm, hmm, hx, hi⟩
 · exact .inl h0
 · refine .inr ⟨a, len, cap, m, D, Pl, hcs, hb, hl, hm, hmm, by rw [hC] at hx; exact hx, fun i him => ?_⟩
   obtain ⟨cs', hc, ht'⟩ := hi i him
   rw [hC] at hc
   obtain ⟨ys, n', hn', hy, hlen, hyl, hf⟩ := DataW.trod_struct he ht'
   obtain ⟨_, hcl, hat⟩ := World.cells?_some hc
   simp only [Prod.mk.injEq] at hy
   refine ⟨ys, n', hy.1, hy.2, hyl, fun j f hj => ?_⟩
   obtain ⟨ho, hk⟩ := hone_of hone j f hj
   have hjl : j < fs.size := (Array.getElem?_eq_some_iff.1 hj).1
   have hcell := hat j hjl
   have hv : cs'[j]? = some (cs'[j]'(by omega)) := List.getElem?_eq_getElem (by omega)
   have h1 := hf j f hj
   rw [ho, hk] at h1
   have hone' : (cs'.drop j).take 1 = [cs'[j]'(by omega)] := by
     rw [List.drop_eq_getElem_cons (by omega)]
     rfl
   rw [hone'] at h1
   have hys : ys[j]? = some (ys[j]'(by omega)) := List.getElem?_eq_getElem (by omega)
   refine ⟨_, _, ?_, hys, h1.trans hys⟩
   rw [<- Go.Deep.add_add, hcell, hv]
end
section
variable {H : Type} {enc : TypeId × Value -> H}
theorem open_tacts {W : World} {A : Option Addr} {len cap : Nat} {d : DataW H} {p : List MemPlace} (h : DataW.Trod enc Tryz.prog W 0 (fun _ => true) true 22 (.slice A len cap) d p) :
   ∃ l : List TAct, l.length = len /\ LS tactE W W.heap.size A l /\ ∀ x ∈ l, (Lit.int .i64 x.1).wf = true := by
 obtain ⟨fuel, hf⟩ := h
 rcases open_slice_fields Tryz.underlying22 Tryz.underlying29 (by kernel_rfl) (by kernel_rfl) hf with ⟨hcs, _⟩ | ⟨a, len', cap', m, D, Pl, hcs, _, hl, hm, hmm, hx, hi⟩
 · simp [Value.cells] at hcs
   obtain ⟨rfl, rfl, rfl⟩ := hcs
   exact ⟨[], rfl, LS.nil_, fun x hx => by cases hx⟩
 · simp [Value.cells] at hcs
   obtain ⟨rfl, rfl, rfl⟩ := hcs
   simp only [if_true] at hmm
   subst hmm
   have key : ∀ i, ∃ r : TAct, i < len -> (W.cell? (a.add (i * 3)) = some (.int .i64 r.1) /\ W.cell? (a.add (i * 3 + 1)) = some (.string r.2.1) /\ W.cell? (a.add (i * 3 + 2)) = some (.string r.2.2)) /\ (Lit.int .i64 r.1).wf = true := by
     intro i
     by_cases hil : i < len
     · obtain ⟨ys, n, _, _, hys, hfld⟩ := hi i (by omega)
       obtain ⟨v0, y0, hc0, _, t0⟩ := hfld 0 _ rfl
       obtain ⟨v1, y1, hc1, _, t1⟩ := hfld 1 _ rfl
       obtain ⟨v2, y2, hc2, _, t2⟩ := hfld 2 _ rfl
       obtain ⟨x0, e0, _, w0⟩ := DataW.trod_int Tryz.underlying3 t0
       obtain ⟨x1, e1, _⟩ := DataW.trod_string Tryz.underlying9 t1
       obtain ⟨x2, e2, _⟩ := DataW.trod_string Tryz.underlying9 t2
       simp at e0 e1 e2
       subst e0 e1 e2
       exact ⟨⟨x0, x1, x2⟩, fun _ => ⟨⟨hc0, hc1, hc2⟩, w0⟩⟩
     · exact ⟨⟨0, ⟨#[]⟩, ⟨#[]⟩⟩, fun h => absurd h hil⟩
   obtain ⟨f, hfs⟩ : ∃ f : Nat -> TAct, ∀ i, i < len -> (W.cell? (a.add (i * 3)) = some (.int .i64 (f i).1) /\ W.cell? (a.add (i * 3 + 1)) = some (.string (f i).2.1) /\ W.cell? (a.add (i * 3 + 2)) = some (.string (f i).2.2)) /\ (Lit.int .i64 (f i).1).wf = true := ⟨fun i => Classical.choose (key i), fun i => Classical.choose_spec (key i)⟩
   clear key
   refine ⟨(List.range len).map f, by simp, ⟨tactE.cells_length _, fun hpos => ⟨a, rfl, ?_, ?_⟩⟩, ?_⟩
   · have := (hfs 0 (by simpa using hpos)).1.1
     have hb := World.block_lt_of_cell? W _ this
     rwa [block_of_add] at hb
   · intro j u hu
     have hjl : j < len * 3 := by
       have := (List.getElem?_eq_some_iff.1 hu).1
       rw [tactE.cells_length] at this; simpa [tactE] using this
     have h0 := tactE.cells_at ((List.range len).map f) (j / 3) (by simp; omega) (j % 3) (by show j % 3 < 3; omega)
     have e : j / 3 * tactE.size + j % 3 = j := by show j / 3 * 3 + j % 3 = j; omega
     rw [e, hu] at h0
     simp only [List.getElem_map, List.getElem_range] at h0
     have hs := (hfs (j / 3) (by omega)).1
     have hm : j % 3 = 0 \/ j % 3 = 1 \/ j % 3 = 2 := by omega
     rcases hm with hm | hm | hm
     · rw [hm] at h0; injection h0 with h0; subst h0; rw [<- hs.1, show j / 3 * 3 = j by omega]
     · rw [hm] at h0; injection h0 with h0; subst h0; rw [<- hs.2.1, show j / 3 * 3 + 1 = j by omega]
     · rw [hm] at h0; injection h0 with h0; subst h0; rw [<- hs.2.2, show j / 3 * 3 + 2 = j by omega]
   · intro x hx
     obtain ⟨i, hi', rfl⟩ := List.mem_map.1 hx
     exact (hfs i (List.mem_range.1 hi')).2
end
abbrev Sl := Option Addr × Nat × Nat
def slE : Enc Sl := ⟨fun x => [.slice x.1 x.2.1 x.2.2], 1, fun _ => rfl, by decide, fun x u hu => by simp at hu; subst hu; rfl⟩
theorem LS.sl {w : World} {B : Nat} {A : Option Addr} {l : List Sl} (h : LS slE w B A l) {k : Nat} (hk : k < l.length) : ∃ b off, A = some ⟨b, off, none⟩ /\ b < B /\ w.cell? ⟨b, off + k, none⟩ = some (.slice l[k].1 l[k].2.1 l[k].2.2) := by
 obtain ⟨b, off, rfl, hb, hc⟩ := h.at_ hk
 have h0 := hc 0 (by decide)
 exact ⟨b, off, rfl, hb, by simpa [slE] using h0⟩
section
variable {H : Type} {enc : TypeId × Value -> H}
theorem open_tacts2 {W : World} {A : Option Addr} {len cap : Nat} {d : DataW H} {p : List MemPlace} (h : DataW.Trod enc Tryz.prog W 0 (fun _ => true) true 77 (.slice A len cap) d p) :
   ∃ (l : List Sl) (f : List (List TAct)), l.length = len /\ f.length = len /\ LS slE W W.heap.size A l /\ ∀ i (h1 : i < l.length) (h2 : i < f.length), f[i].length = l[i].2.1 /\ LS tactE W W.heap.size l[i].1 f[i] := by
 obtain ⟨fuel, hf⟩ := h
 rcases DataW.trod_slice Tryz.underlying77 hf with ⟨hcs, _⟩ | ⟨a, len', cap', elems, rest, n, _, hcs, _, hb, hl, hm, hlen, hel, hsp, hns⟩
 · simp [Value.cells] at hcs
   obtain ⟨rfl, rfl, rfl⟩ := hcs
   exact ⟨[], [], rfl, rfl, LS.nil_, fun i h => absurd h (by simp)⟩
 · simp [Value.cells] at hcs
   obtain ⟨rfl, rfl, rfl⟩ := hcs
   have c1 : Tryz.prog.cellsOf 22 = 1 := by kernel_rfl
   have key : ∀ i, ∃ r : Sl × List TAct, i < len -> W.cell? (a.add i) = some (.slice r.1.1 r.1.2.1 r.1.2.2) /\ r.2.length = r.1.2.1 /\ LS tactE W W.heap.size r.1.1 r.2 := by
     intro i
     by_cases hil : i < len
     · have h1 := hel i hil
       rw [c1, Nat.mul_one, List.getElem?_eq_getElem (by omega), Option.bind_eq_some_iff] at h1
       obtain ⟨cs', hcs, hy⟩ := h1
       have hy' := hy
       rcases DataW.trod_slice Tryz.underlying22 hy with ⟨rfl, _⟩ | ⟨a', l', c', _, _, _, _, rfl, _⟩
       · obtain ⟨q, q1, q2, _⟩ := open_tacts (A := none) (len := 0) (cap := 0) (d := (elems[i]'(by omega)).1) (p := (elems[i]'(by omega)).2) (enc := enc) ⟨n, hy'⟩
         exact ⟨((none, 0, 0), q), fun _ => ⟨cell_of_cells?_one hcs, q1, q2⟩⟩
       · obtain ⟨q, q1, q2, _⟩ := open_tacts (A := some a') (len := l') (cap := c') (d := (elems[i]'(by omega)).1) (p := (elems[i]'(by omega)).2) (enc := enc) ⟨n, hy'⟩
         exact ⟨((some a', l', c'), q), fun _ => ⟨cell_of_cells?_one hcs, q1, q2⟩⟩
     · exact ⟨((none, 0, 0), []), fun h => absurd h hil⟩
   obtain ⟨g, hg⟩ : ∃ g : Nat -> Sl × List TAct, ∀ i, i < len -> W.cell? (a.add i) = some (.slice (g i).1.1 (g i).1.2.1 (g i).1.2.2) /\ (g i).2.length = (g i).1.2.1 /\ LS tactE W W.heap.size (g i).1.1 (g i).2 := ⟨fun i => Classical.choose (key i), fun i => Classical.choose_spec (key i)⟩
   clear key
   refine ⟨(List.range len).map fun i => (g i).1, (List.range len).map fun i => (g i).2, by simp, by simp, ⟨slE.cells_length _, fun hpos => ⟨a, rfl, ?_, ?_⟩⟩, ?_⟩
   · have := (hg 0 (by simpa using hpos)).1
     have hb := World.block_lt_of_cell? W _ this
     rwa [block_of_add] at hb
   · intro j u hu
     have hjl : j < len := by
       have := (List.getElem?_eq_some_iff.1 hu).1
       rw [slE.cells_length] at this; simpa [slE] using this
     have h0 := slE.cells_at ((List.range len).map fun i => (g i).1) j (by simp; omega) 0 (by decide)
     have e : j * slE.size + 0 = j := by show j * 1 + 0 = j; omega
     rw [e, hu] at h0
     simp only [List.getElem_map, List.getElem_range] at h0
     exact ((hg j hjl).1).trans (show some (Value.slice (g j).1.1 (g j).1.2.1 (g j).1.2.2) = some u from h0.symm)
   · intro i h1 h2
     simp only [List.getElem_map, List.getElem_range]
     exact (hg i (by simpa using h1)).2
end
end Go.Proofs.YtpfplojkiloldaaGreatDoor
namespace Go.Proofs.YtpfplojkiloldaaGreatDoor
open Go.RowKit Go.Shelf Go.Maps
structure VR where
 root : Int
 es : List Ent
 tok : Nat
 ids : List Int
 A : Option Addr
 c : Nat
def VR.hdr (v : VR) : Sl := (v.A, v.es.length, v.c)
def OldV (disk : Tp.Disk) (vs : List VR) : Prop := ∀ v ∈ vs, Tp.VerAt disk v.root v.es v.tok v.ids /\ v.tok <= 480
structure OldRows (b : Nat) (vs : List VR) (Ar : Option Addr) (cr : Nat) (Al : Option Addr) (cl : Nat) (W : World) : Prop where
 r : LO intE 3 W b (.slice Ar vs.length cr) (vs.map VR.root)
 l : LO slE 32 W b (.slice Al vs.length cl) (vs.map VR.hdr)
 e : ∀ v ∈ vs, LO entE 38 W b (.slice v.A v.es.length v.c) v.es
theorem OldRows.keep {b : Nat} {vs : List VR} {Ar Al : Option Addr} {cr cl : Nat} {W W' : World} (h : OldRows b vs Ar cr Al cl W) (hk : KeepL W W') : OldRows b vs Ar cr Al cl W' :=
 ⟨hk _ _ _ _ _ _ h.r (.inr (.inl rfl)), hk _ _ _ _ _ _ h.l (.inr (.inr rfl)), fun v hv => hk _ _ _ _ _ _ (h.e v hv) (.inl rfl)⟩
def pm (i : Nat) : Int := if i = 0 then 2 else 91 + 147 * ((i : Int) - 1) + 6 * ((i : Int) * ((i : Int) - 1))
def dm (i : Nat) : Int := if i = 0 then 89 else 147 + 12 * (i : Int)
theorem pm_step {i : Nat} (h : i < 8) : pm i + dm i = pm (i + 1) /\ pm (i + 1) <= 1456 := by
 have : i = 0 \/ i = 1 \/ i = 2 \/ i = 3 \/ i = 4 \/ i = 5 \/ i = 6 \/ i = 7 := by omega
 rcases this with rfl | rfl | rfl | rfl | rfl | rfl | rfl | rfl <;> decide
section
variable {w0 W W' : World} {F : FFile} {n : Nat} {a : TAd} {used : List Run} {disk : Tp.Disk} {P : Int} {i k b0 R0 : Nat} {es : List Ent}
structure InRd (w0 : World) (F : FFile) (n : Nat) (a : TAd) (used : List Run) (disk : Tp.Disk) (P : Int) (i k b0 R0 : Nat) (es : List Ent) (W : World) : Prop where
 at_ : ∃ root σ ids tok, FSt F n a used disk root σ ids es tok (288 * (60 - k) + R0) W /\ tok <= 60 * i + k /\ Tp.FL σ <= 2 * k /\ σ.pages <= P + dm i
 hF : ∀ x, FU F a x -> w0.heap.size <= x
 low : ∀ x, FU F a x -> x < b0
 hb : b0 <= W.heap.size
 below : Below w0.heap.size w0 W
theorem InRd.up (h : InRd w0 F n a used disk P i k b0 R0 es W) (hb : Below W.heap.size W W') : InRd w0 F n a used disk P i k b0 R0 es W' := by
 obtain ⟨⟨root, σ, ids, tok, h1, h2⟩, h3, h4, h5, h6⟩ := h
 exact ⟨⟨root, σ, ids, tok, h1.below hb, h2⟩, h3, h4, Nat.le_trans h5 hb.size, h6.trans (hb.mono h6.size)⟩
theorem InRd.skip (h : InRd w0 F n a used disk P i k b0 R0 es W) : InRd w0 F n a used disk P i (k + 1) b0 R0 es W := by
 obtain ⟨⟨root, σ, ids, tok, h1, h2, h2', h2''⟩, h3, h4, h5, h6⟩ := h
 exact ⟨⟨root, σ, ids, tok, h1.less (by omega), by omega, by omega, h2''⟩, h3, h4, h5, h6⟩
theorem in_mine {root : Int} {σ : Tp.Pst} {ids : List Int} {tok r : Nat} (h1 : FSt F n a used disk root σ ids es tok r W) (h2 : tok <= 60 * i + k) (h3 : Tp.FL σ <= 2 * k) : 5 * σ.mine.length <= 11 * k + 60 * i + 5 /\ 5 * σ.mine.length <= 6 * (60 * i + k) + 5 := by
 have m1 := Tp.mine_le h1.ap h1.rt h1.mine
 have m2 := h1.rt.few
 have m3 := h1.mineLen
 omega
theorem in_topp {root : Int} {σ : Tp.Pst} {ids : List Int} {tok r : Nat} (h1 : FSt F n a used disk root σ ids es tok r W) (h2 : tok <= 60 * i + k) (h3 : Tp.FL σ <= 2 * k) (hk : k < 60) (hu : ((Rp.nums used).length : Int) <= P - 2) : Topp used σ <= P + dm i := by
 obtain ⟨m1, m2⟩ := in_mine h1 h2 h3
 unfold Topp dm
 split <;> omega
def InEnd (w0 : World) (F : FFile) (n : Nat) (a : TAd) (used : List Run) (disk : Tp.Disk) (P : Int) (i k b0 R0 : Nat) (es : List Ent) (W W' : World) : Prop := InRd w0 F n a used disk P i k b0 R0 es W' /\ Fr (FU F a) W W' /\ KeepL W W'
theorem inr_put (h : InRd w0 F n a used disk P i k b0 R0 es W) (hk : k < 60) (hi : i < 8) (hu : ((Rp.nums used).length : Int) <= P - 2) (hn : P + dm i <= n) {s v : ByteArray} (hm : En.may s v = true) :
   Calls Tryz.prog 15 #[.pointer (some ⟨a.u, 0, none⟩), .string s, .string v] W fun e W' => e = .returned (.int .i64 0) /\ InEnd w0 F n a used disk P i (k + 1) b0 R0 (En.put es s v) W W' := by
 obtain ⟨⟨root, σ, ids, tok, h1, h2, h2', h2''⟩, h3, h4, h5, h6⟩ := h
 have ht := in_topp h1 h2 h2' hk hu
 refine (fst_put_r (r := 288 * (60 - (k + 1)) + R0) (h1.less (by omega)) hm (by omega) (by omega)).mono ?_
 rintro e W' ⟨rfl, ⟨root', σ', ids', g1, g2, g3⟩, f⟩
 have hd := dput_le es s
 exact ⟨rfl, ⟨⟨root', σ', ids', _, g1, by omega, by omega, by omega⟩, h3, h4, Nat.le_trans h5 f.size, h6.trans (f.low h6.size h3)⟩, f, h1.keepL f⟩
theorem inr_del (h : InRd w0 F n a used disk P i k b0 R0 es W) (hk : k < 60) (hi : i < 8) (hu : ((Rp.nums used).length : Int) <= P - 2) (hn : P + dm i <= n) (s : ByteArray) :
   Calls Tryz.prog 21 #[.pointer (some ⟨a.u, 0, none⟩), .string s] W fun e W' => ∃ b : Bool, e = .returned (.tuple #[.bool b, .int .i64 0]) /\ InEnd w0 F n a used disk P i (k + 1) b0 R0 (En.del es s) W W' := by
 obtain ⟨⟨root, σ, ids, tok, h1, h2, h2', h2''⟩, h3, h4, h5, h6⟩ := h
 have ht := in_topp h1 h2 h2' hk hu
 refine (fst_del_r (r := 288 * (60 - (k + 1)) + R0) (h1.less (by omega)) s (by omega) (by omega)).mono ?_
 rintro e W' ⟨b, rfl, ⟨root', σ', ids', g1, g2, g3⟩, f⟩
 exact ⟨b, rfl, ⟨⟨root', σ', ids', _, g1, by omega, by omega, by omega⟩, h3, h4, Nat.le_trans h5 f.size, h6.trans (f.low h6.size h3)⟩, f, h1.keepL f⟩
def TxC (F : FFile) (t n : Nat) (free : List Run) (pages : Int) (b : Nat) (w : World) : Prop :=
 ∃ (w1 : World) (m k : Nat) (D : DataW Value) (cs : Array Value), w1.heap.size <= b /\ Txn w1 t m F.f n free pages k D /\ Blk w1 F.d 110 cs /\ Fr (fun g => g = F.d \/ b <= g \/ ∃ cs ty, Blk w1 g ty cs /\ (ty = 3 \/ ty = 32)) w1 w
theorem TxC.of {t b : Nat} {free : List Run} {pages : Int} (h : TxB F t n free pages b W) : TxC F t n free pages b W := by
 obtain ⟨w1, m, k, D, cs, h1, h2, h3, h4⟩ := h
 exact ⟨w1, m, k, D, cs, h1, h2, h3, h4.more fun g hg => hg.imp_right .inl⟩
theorem TxC.fr {t b : Nat} {free : List Run} {pages : Int} {S : Nat -> Prop} (h : TxC F t n free pages b W) (hf : Fr S W W') (hS : ∀ g, S g -> g = F.d \/ b <= g \/ ∃ cs ty, Blk W g ty cs /\ (ty = 3 \/ ty = 32)) : TxC F t n free pages b W' := by
 obtain ⟨w1, m, k, D, cs, h1, h2, h3, h4⟩ := h
 refine ⟨w1, m, k, D, cs, h1, h2, h3, h4.go hf (fun g hg => ?_)⟩
 rcases hS g hg with e | e | ⟨cs', ty, hB, ht⟩
 · exact .inl (.inl e)
 · exact .inl (.inr (.inl e))
 · by_cases hs : g = F.d \/ b <= g \/ ∃ cs ty, Blk w1 g ty cs /\ (ty = 3 \/ ty = 32)
   · exact .inl hs
   · by_cases hl : g < w1.heap.size
     · exact .inl (.inr (.inr ⟨cs', ty, (h4.block g hl hs).symm.trans hB, ht⟩))
     · exact .inr (by omega)
theorem TxC.txn {t b : Nat} {free : List Run} {pages : Int} {R : Int} (h : TxC F t n free pages b W) (hA : F.At W R) (hn : F.D.sure.length = n) : ∃ m k D, Txn W t m F.f n free pages k D := by
 obtain ⟨w1, m, k, D, cs, h1, ⟨_, ⟨v, h2, h3⟩, es, c, h4, h5⟩, h6, hf⟩ := h
 have hb : ∀ {g : Nat} {o : Obj}, w1.heap[g]? = some o -> (∀ cs ty, (ty = 110 \/ ty = 3 \/ ty = 32) -> o ≠ .cells cs ty) -> W.heap[g]? = some o := fun {g o} ho hne => (hf.block g (Array.getElem?_eq_some_iff.1 ho).1 (fun e => by
   have := (Array.getElem?_eq_some_iff.1 ho).1
   rcases e with rfl | e | ⟨cs', ty, hB, ht⟩
   · have e2 := ho.symm.trans h6
     injection e2 with e2
     exact hne _ _ (.inl rfl) e2
   · omega
   · have e2 := ho.symm.trans hB
     injection e2 with e2
     exact hne _ _ (.inr ht) e2)).trans ho
 refine ⟨m, k, D, hn ▸ hA.fileOf, ⟨v, hb h2 (fun cs ty ht e => by injection e with _ e; subst e; rcases ht with h | h | h <;> cases h), ?_⟩, es, c, hb h4 (fun cs ty ht e => by cases e), h5⟩
 rcases h3 with ⟨e1, e2 | ⟨g, cap, cur, hv, hbb, hh, hr⟩⟩
 · exact ⟨e1, .inl e2⟩
 · exact ⟨e1, .inr ⟨g, cap, cur, hv, hbb, hb hh (fun cs ty ht e => by injection e with _ e; subst e; rcases ht with h | h | h <;> cases h), hr⟩⟩
end
theorem eiSlE : EI Tryz.prog 32 (.slice none 0 0) 1 24 := EI.mk (by kernel_rfl)
theorem told_big (A : Option Addr) (c : Nat) (rl : List Sl) (w : World) (h : 8 < rl.length) :
   Calls Tryz.prog 9 #[.slice A rl.length c] w (TrueEnd w) := by
 have HW := Lib.hid (works13_any w)
 have h8 : (8 : Int) < (rl.length : Nat) := by omega
 go_enter Tryz.func9, Tryz.ntmps9
 go_wp2_with fail
 refine Calls.mono HW.out ?_
 rintro e w1 ⟨rfl, b1⟩
 have HB := Lib.hid b1
 clear b1 HW
 go_wp2
 go_ret
 exact ⟨rfl, HB.out⟩
structure OutS (w0 : World) (f0 i : Nat) (P root : Int) (es : List Ent) (vs : List VR) (W : World) : Prop where
 ex : ∃ F disk N tok ids, F.f = f0 /\ F.k + 1000 < maxLen /\ FReady F 1500 disk N ((8 - i) * 30000) W /\ N <= 1500 * i /\ Tp.VerAt disk root es tok ids /\ tok <= 60 * i /\ LowD disk [] P /\ OldV disk vs /\ w0.heap.size <= F.B
 p : 2 <= P /\ P <= pm i
 len : vs.length = i
 below : Below w0.heap.size w0 W
theorem told_main (A : Option Addr) (c : Nat) (rl : List Sl) (fl : List (List TAct)) (w : World) (hr : LS slE w w.heap.size A rl) (hlen : fl.length = rl.length) (hx : ∀ i (h1 : i < rl.length) (h2 : i < fl.length), fl[i].length = rl[i].2.1 /\ LS tactE w w.heap.size rl[i].1 fl[i]) (hT : HT w) (h8 : ¬ 8 < rl.length) :
   Calls Tryz.prog 9 #[.slice A rl.length c] w (TrueEnd w) := by
 have HW := Lib.hid (works13_any w)
 have h8i : ¬ (8 : Int) < (rl.length : Nat) := by omega
 have HRS := Lib.hid hr
 have HRL := Lib.hid hx
 have HHT := Lib.hid hT
 have HD := Lib.hid (fun W => dfresh_any 1500 W)
 rw [show diskN 1500 = 1500 by decide] at HD
 clear hr hx hT
 go_enter Tryz.func9, Tryz.ntmps9
 go_wp2_with fail
 refine Calls.mono HW.out ?_
 rintro e w1 ⟨rfl, b1⟩
 have HB := Lib.hid b1
 clear b1 HW
 go_wp2_with fail
 refine (HD.out _).mono ?_
 rintro e w2 ⟨d, rfl, hd, b2⟩
 have HFF := Lib.hid (ffresh_any hd b2.size)
 have HB2 := Lib.hid (HB.out.trans (b2.mono HB.out.size))
 have HZ2 := Lib.hid b2.size
 clear hd b2 HD
 go_wp2_with fail
 refine HFF.out.mono ?_
 rintro e w3 ⟨f, rfl, hf, b3⟩
 obtain ⟨F, hFB, rfl, rfl, hFk, hA, hON⟩ := file_start (by decide) hf
 have hB3 := HB2.out.trans (b3.mono HB2.out.size)
 have h0 := HHT.out.1
 have hF0 : 0 < F.B := by rw [hFB]; exact Nat.lt_of_lt_of_le h0 HB.out.size
 have hFw : w.heap.size <= F.B := by rw [hFB]; exact HB.out.size
 have hT3 : HT w3 := HHT.out.below hB3 h0
 obtain ⟨f0, hf0⟩ : ∃ x, x = F.f := ⟨_, rfl⟩
 have HS0 : Hid (OutS w f0 0 2 0 [] [] w3) := Lib.hid ⟨⟨F, noDisk, 0, 0, [], hf0.symm, by rw [hFk]; decide, ⟨hON, ⟨0, Int.le_refl _, by decide, hA⟩, hT3, hF0, by rw [hFB]; exact Nat.le_trans HZ2.out b3.size⟩, Nat.le_refl _, Tp.VerAt.none_ _ _, Nat.le_refl _, fun id x hx => by (cases hx), fun v hv => by (cases hv), hFw⟩, by decide, rfl, hB3⟩
 have HR0 : Hid (OldRows w.heap.size [] none 0 none 0 w3) := Lib.hid ⟨LO.nil_ _ _, LO.nil_ _ _, fun v hv => by (cases hv)⟩
 have HM0 : Hid (LO entE 38 w3 w.heap.size (.slice none ([] : List Ent).length 0) []) := Lib.hid (LO.nil_ _ _)
 rw [<- hf0]
 clear hf b3 hFB hA hON hB3 h0 hF0 hFw hT3 HFF hFk HZ2 hf0 HB2 HB
 go_wp2
 go_loopg [6, 7, 8, 9, 10, 11] rl.length (fun gg s6 s7 s8 s9 s10 s11 wr => ∃ (i : Nat) (P root : Int) (es : List Ent) (Am : Option Addr) (cm : Nat) (vs : List VR) (Ar : Option Addr) (cr : Nat) (Al : Option Addr) (cl : Nat), s6 = .int .i64 P /\ s7 = .int .i64 root /\ s8 = .slice Am es.length cm /\ s9 = .slice Ar vs.length cr /\ s10 = .slice Al vs.length cl /\ s11 = .int .i64 (i : Nat) /\ i <= rl.length /\ rl.length - i <= gg /\ es.length <= 60 * i /\ Hid (OutS w f0 i P root es vs wr) /\ Hid (OldRows w.heap.size vs Ar cr Al cl wr) /\ Hid (LO entE 38 wr w.heap.size (.slice Am es.length cm) es))
 case atStart => exact ⟨0, 2, 0, [], none, 0, [], none, 0, none, 0, rfl, rfl, rfl, rfl, rfl, rfl, Nat.zero_le _, by omega, Nat.zero_le _, HS0, HR0, HM0⟩
 case round =>
   clear HS0 HR0 HM0
   obtain ⟨i, P, root, es, Am, cm, vs, Ar, cr, Al, cl, rfl, rfl, rfl, rfl, rfl, rfl, hil, hig, hel, HS, HOR, HLM⟩ := hrel
   have hwi : IntKind.i64.wrap ((i : Int) + 1) = (i : Int) + 1 := IntWalk.i64_in _ (by omega)
   by_cases hi : i < rl.length
   · have hii : (i : Int) < (rl.length : Nat) := by omega
     have hif : i < fl.length := by omega
     obtain ⟨e1, e2⟩ := HRL.out i hi hif
     obtain ⟨bb, oo, rfl, hbb, g00⟩ := HRS.out.sl hi
     have g0 := (HS.out.below.cell (p := ⟨bb, oo + i, none⟩) hbb).trans g00
     have hbz : bb < wr.heap.size := Nat.lt_of_lt_of_le hbb HS.out.below.size
     generalize fl[i] = li at *
     generalize rl[i] = sl at *
     obtain ⟨Ai, ni, ci⟩ := sl
     simp only at e1 e2 g0 g00
     subst e1
     have HLI := Lib.hid e2
     have HG0 := Lib.hid g00
     clear g00
     have hov := over_any Ai ci li wr ((e2.below HS.out.below).more HS.out.below.size)
     have HB := Lib.hid HS.out.below
     cases hol : overT li with
     | true =>
       as_aux_lemma =>
       rw [hol] at hov
       have HO := Lib.hid hov
       clear hov e2 hol
       go_wp2_with fail
       refine Calls.mono HO.out ?_
       rintro e wr ⟨rfl, rfl⟩
       go_wp2
       go_ret
       exact ⟨rfl, HB.out⟩
     | false =>
       rw [hol] at hov
       have HO := Lib.hid hov
       by_cases h60 : 60 < li.length
       · as_aux_lemma =>
         have h60i : (60 : Int) < (li.length : Nat) := by omega
         clear hov e2 hol
         go_wp2_with fail
         refine Calls.mono HO.out ?_
         rintro e wr ⟨rfl, rfl⟩
         go_wp2
         go_ret
         exact ⟨rfl, HB.out⟩
       · have h60i : ¬ (60 : Int) < (li.length : Nat) := by omega
         clear hov e2 hol
         go_wp2_with fail
         refine Calls.mono HO.out ?_
         rintro e wr ⟨rfl, rfl⟩
         clear HO
         obtain ⟨F, disk, N, tok, ids, rfl, hFk, hrdy, hN, hver, htok, hlow, hov, hFB⟩ := HS.out.ex
         obtain ⟨hp2, hpm⟩ := HS.out.p
         have hst := pm_step (i := i) (by omega)
         have hdm : 0 <= dm i := by unfold dm; split <;> omega
         have hPn : pagesN P 1500 = P := by unfold pagesN; omega
         have hnm := nums_minus hp2 []
         have HBG := Lib.hid (fr_begin (r := 288 * (60 - 0) + (12000 + (7 - i) * 30000)) (hrdy.less (by omega)) (by omega) none 0 [] P P hPn RS.nil_ (Nat.zero_le _) hlow)
         have HRDY := Lib.hid hrdy
         have HVER := Lib.hid hver
         have HLOW := Lib.hid hlow
         have HOV := Lib.hid hov
         have HVL := Lib.hid HS.out.len
         clear hrdy hver hlow hov HS
         go_wp2_with fail
         refine Calls.mono HBG.out ?_
         rintro e w4 ⟨t, m, rfl, hM, ⟨q1, q2, q3⟩, b4⟩
         have HNW := Lib.hid (fst_new (root := root) hM q3 HVER.out (by omega) (fun x y h => by obtain ⟨cc, c1, c2⟩ := HRDY.out.on.c; exact (c2 x y h).2.1) (by decide) HLOW.out)
         have HB4 := Lib.hid (HB.out.trans (b4.mono HB.out.size))
         have HTM := Lib.hid (And.intro (Nat.le_trans HB.out.size q1) (Nat.le_trans HB.out.size q2))
         have HOR4 := Lib.hid (HOR.out.keep (KeepL.of b4))
         have HLM4 := Lib.hid (HLM.out.below b4)
         have hbz4 : bb < w4.heap.size := Nat.lt_of_lt_of_le hbz b4.size
         clear hM q1 q2 q3 b4 HBG HOR HLM hbz
         go_wp2_with fail
         refine Calls.mono HNW.out ?_
         rintro e w5 ⟨a, rfl, rfl, rfl, hst5, hu5, b5⟩
         obtain ⟨used, hused⟩ : ∃ x, x = Rp.minus [(2, P - 1)] [] := ⟨_, rfl⟩
         rw [<- hused] at hst5 hnm
         obtain ⟨b0, hb0⟩ : ∃ b, b = w5.heap.size := ⟨_, rfl⟩
         have HI0 : Hid (InRd w F 1500 a used disk P i 0 b0 (12000 + (7 - i) * 30000) es w5) := Lib.hid ⟨⟨_, _, _, _, hst5, by omega, by show ([] : List Int).countP _ <= 0; simp, by show P <= _; omega⟩, fun x hx => by
           rcases hx with (rfl | rfl | rfl) | rfl
           · exact HTM.out.1
           · exact HTM.out.2
           · exact Nat.le_trans hFB HRDY.out.dlt.1
           · exact Nat.le_trans HB4.out.size hu5, by rw [hb0]; exact hst5.low, by omega, HB4.out.trans (b5.mono HB4.out.size)⟩
         have HOR5 := Lib.hid (HOR4.out.keep (KeepL.of b5))
         have HLM5 := Lib.hid (HLM4.out.below b5)
         have HWB := Lib.hid (show w.heap.size <= b0 by rw [hb0]; exact Nat.le_trans HB4.out.size b5.size)
         have hbb0 : bb < b0 := by rw [hb0]; exact Nat.lt_of_lt_of_le hbz4 b5.size
         have hb05 : b0 <= w5.heap.size := Nat.le_of_eq hb0
         clear hst5 hu5 b5 HNW HB4 HTM HOR4 HLM4 hbz4 hb0 hused
         go_wp2
         go_loopg [8, 15] li.length (fun ga s8 s15 wr => ∃ (k : Nat) (es : List Ent) (Am : Option Addr) (cm : Nat), s8 = .slice Am es.length cm /\ s15 = .int .i64 (k : Nat) /\ k <= li.length /\ li.length - k <= ga /\ es.length <= 60 * i + k /\ Hid (InRd w F 1500 a used disk P i k b0 (12000 + (7 - i) * 30000) es wr) /\ Hid (OldRows w.heap.size vs Ar cr Al cl wr) /\ Hid (LO entE 38 wr w.heap.size (.slice Am es.length cm) es))
         case atStart => exact ⟨0, es, Am, cm, rfl, rfl, Nat.zero_le _, by omega, by omega, HI0, HOR5, HLM5⟩
         case round =>
           clear HI0 HOR5 HLM5 hb05 hel
           obtain ⟨k, es, Am, cm, rfl, rfl, hkl, hkg, hel, HI, HOR, HLM⟩ := hrel
           have hwk : IntKind.i64.wrap ((k : Int) + 1) = (k : Int) + 1 := IntWalk.i64_in _ (by omega)
           have hbl := HI.out.below
           have g0 := (hbl.cell (p := ⟨bb, oo + i, none⟩) hbb).trans HG0.out
           have hbz : bb < wr.heap.size := Nat.lt_of_lt_of_le hbb hbl.size
           by_cases hk : k < li.length
           · have hki : (k : Int) < (li.length : Nat) := by omega
             obtain ⟨ba, oa, rfl, hba, c0, k1, k2⟩ := (HLI.out.below hbl).tact hk
             have hbaz : ba < wr.heap.size := Nat.lt_of_lt_of_le hba hbl.size
             generalize li[k] = x at *
             obtain ⟨xk, s, v⟩ := x
             simp only at c0 k1 k2
             go_upto_if 80 with fail
             have hbA : Below wr.heap.size wr (wr.alloc (.cells #[.int .i64 xk, .string s, .string v] 29)) := (Below.refl _ wr).alloc (Nat.le_refl _) _
             have hXA := Blk.new wr 29 #[.int .i64 xk, .string s, .string v]
             have HIA := Lib.hid (HI.out.up hbA)
             have HORA := Lib.hid (HOR.out.keep (KeepL.of hbA))
             have HLMA := Lib.hid (HLM.out.below hbA)
             have hgF : ¬ FU F a wr.heap.size := fun h => by have := HI.out.low _ h; have := HI.out.hb; omega
             have HGF := Lib.hid hgF
             have y1 : (wr.alloc (.cells #[.int .i64 xk, .string s, .string v] 29)).cell? ⟨wr.heap.size, 1, none⟩ = some (.string s) := hXA.cell 1
             have y2 : (wr.alloc (.cells #[.int .i64 xk, .string s, .string v] 29)).cell? ⟨wr.heap.size, 2, none⟩ = some (.string v) := hXA.cell 2
             have yl := hXA.lt
             have HXA := Lib.hid hXA
             clear hXA hgF hbA HI HOR HLM hbz hbaz c0 k1 k2 hba hbl g0
             generalize wr.alloc (.cells #[.int .i64 xk, .string s, .string v] 29) = wA at *
             generalize wr.heap.size = gA at *
             have hk60 : k < 60 := by omega
             have hi8 : i < 8 := by omega
             have hPn2 : P + dm i <= (1500 : Nat) := by omega
             by_cases hq : xk.tmod 3 = 2
             · as_aux_lemma =>
               have hq1 : (xk.tmod 3 == 2) = true := by simpa using hq
               have HD := Lib.hid (inr_del HIA.out hk60 hi8 hnm hPn2 s)
               clear hq
               go_wp2_with fail
               refine HD.out.mono ?_
               rintro e w6 ⟨b, rfl, h6, f6, kp6⟩
               have hx6 := f6.blk HXA.out HGF.out
               have x1 : w6.cell? ⟨gA, 1, none⟩ = some (.string s) := hx6.cell 1
               have xl := hx6.lt
               have HI6 := Lib.hid h6
               have HOR6 := Lib.hid (HORA.out.keep kp6)
               have HLM6 := Lib.hid (kp6 _ _ _ _ _ _ HLMA.out (.inl rfl))
               have HC := Lib.hid (rdelete_any Am cm es s w6 (LO.sv HLM6.out).ls (by omega))
               have hdl := del_len es s
               clear h6 f6 kp6 hx6 HD
               go_wp2_with fail
               refine Calls.mono HC.out ?_
               intro e w7 he
               obtain ⟨A7, c7, rfl, r7, _, b7⟩ := he.open_
               have HE : Hid (InRd w F 1500 a used disk P i (k + 1) b0 (12000 + (7 - i) * 30000) (En.del es s) w7 /\ OldRows w.heap.size vs Ar cr Al cl w7 /\ LO entE 38 w7 w.heap.size (.slice A7 (En.del es s).length c7) (En.del es s)) := Lib.hid ⟨HI6.out.up b7, HOR6.out.keep (KeepL.of b7), r7.lower HI6.out.below.size⟩
               have hl7 : (En.del es s).length <= 60 * i + (k + 1) := by omega
               clear he r7 b7 HC HI6 HOR6 HLM6
               generalize En.del es s = es7 at *
               go_wp2
               go_roundg (li.length - (k + 1))
               case measure => omega
               case rel => exact ⟨k + 1, es7, A7, c7, rfl, by go_num, by omega, Nat.le_refl _, hl7, Lib.hid HE.out.1, Lib.hid HE.out.2.1, Lib.hid HE.out.2.2⟩
             · have hq1 : (xk.tmod 3 == 2) = false := by simpa using hq
               clear hq
               cases hm : En.may s v with
               | false =>
                 as_aux_lemma =>
                 have hma := fun W => may_any s v W
                 rw [hm] at hma
                 have HMAY := Lib.hid hma
                 have HE := Lib.hid HIA.out.skip
                 clear hma hm HIA
                 go_wp2_with fail
                 refine (HMAY.out _).mono ?_
                 rintro e wA ⟨rfl, rfl⟩
                 go_wp2
                 go_roundg (li.length - (k + 1))
                 case measure => omega
                 case rel => exact ⟨k + 1, es, Am, cm, rfl, by go_num, by omega, Nat.le_refl _, by omega, HE, HORA, HLMA⟩
               | true =>
                 as_aux_lemma =>
                 have hma := fun W => may_any s v W
                 rw [hm] at hma
                 have HMAY := Lib.hid hma
                 have HP := Lib.hid (inr_put HIA.out hk60 hi8 hnm hPn2 hm)
                 clear hma hm
                 go_wp2_with fail
                 refine (HMAY.out _).mono ?_
                 rintro e wA ⟨rfl, rfl⟩
                 clear HMAY
                 go_wp2_with fail
                 refine HP.out.mono ?_
                 rintro e w6 ⟨rfl, h6, f6, kp6⟩
                 have hx6 := f6.blk HXA.out HGF.out
                 have x1 : w6.cell? ⟨gA, 1, none⟩ = some (.string s) := hx6.cell 1
                 have x2 : w6.cell? ⟨gA, 2, none⟩ = some (.string v) := hx6.cell 2
                 have xl := hx6.lt
                 have HI6 := Lib.hid h6
                 have HOR6 := Lib.hid (HORA.out.keep kp6)
                 have HLM6 := Lib.hid (kp6 _ _ _ _ _ _ HLMA.out (.inl rfl))
                 have HC := Lib.hid (rput_any Am cm es s v w6 (LO.sv HLM6.out).ls (by omega))
                 have hl7 : (En.put es s v).length <= 60 * i + (k + 1) := by have := eput_len (k := s) (v := v) es; have := dput_le es s; omega
                 clear h6 f6 kp6 hx6 HP
                 go_wp2_with fail
                 refine Calls.mono HC.out ?_
                 intro e w7 he
                 obtain ⟨A7, c7, rfl, r7, _, b7⟩ := he.open_
                 have HE : Hid (InRd w F 1500 a used disk P i (k + 1) b0 (12000 + (7 - i) * 30000) (En.put es s v) w7 /\ OldRows w.heap.size vs Ar cr Al cl w7 /\ LO entE 38 w7 w.heap.size (.slice A7 (En.put es s v).length c7) (En.put es s v)) := Lib.hid ⟨HI6.out.up b7, HOR6.out.keep (KeepL.of b7), r7.lower HI6.out.below.size⟩
                 clear he r7 b7 HC HI6 HOR6 HLM6
                 generalize En.put es s v = es7 at *
                 go_wp2
                 go_roundg (li.length - (k + 1))
                 case measure => omega
                 case rel => exact ⟨k + 1, es7, A7, c7, rfl, by go_num, by omega, Nat.le_refl _, hl7, Lib.hid HE.out.1, Lib.hid HE.out.2.1, Lib.hid HE.out.2.2⟩
           · obtain rfl : k = li.length := by omega
             have hki : ¬ (li.length : Int) < (li.length : Nat) := by omega
             obtain ⟨root1, σ, ids1, tok1, hst, ht1, hFL, hpg⟩ := HI.out.at_
             obtain ⟨m1, m2⟩ := in_mine hst ht1 hFL
             have HFL := Lib.hid (fst_flush2 (hst.less (r' := 12000 + (7 - i) * 30000) (by omega)) HRDY.out.on (by omega) hFk (by omega))
             have HBL := Lib.hid hbl
             have HML := Lib.hid (show σ.mine.length <= 1500 by omega)
             have HPG := Lib.hid hpg
             have HTK := Lib.hid ht1
             have HAP := Lib.hid hst.ap
             clear hst ht1 hFL hpg m1 m2 HI hbl hkg hwk hk hkl HLI
             go_wp2_with fail
             refine HFL.out.mono ?_
             rintro e w6 ⟨rfl, F', disk', hfl⟩
             obtain ⟨f1, f2, f3, f4⟩ := hfl.same
             have HKP := Lib.hid hfl.keepL
             have HOR6 := Lib.hid (HOR.out.keep HKP.out)
             have HLM6 := Lib.hid (HKP.out _ _ _ _ _ _ HLM.out (.inl rfl))
             have HB6 := Lib.hid (HBL.out.trans (hfl.below.mono hFB))
             have HRT := Lib.hid (troot_any a.u root1 0 w6 hfl.self)
             have HRDY6 := Lib.hid hfl.ready
             have HVER6 := Lib.hid hfl.ver
             have HOV6 : Hid (OldV disk' vs) := Lib.hid fun v hv => ⟨hfl.old _ _ _ _ (HOV.out v hv).1, (HOV.out v hv).2⟩
             have HLOW6 := Lib.hid hfl.low
             have HTX := Lib.hid (TxC.of hfl.tx)
             have HPN := Lib.hid hfl.pg
             have HFRL := Lib.hid hfl.fl
             have HF1 := Lib.hid (show w.heap.size <= F'.B by rw [f1]; exact hFB)
             have HF2 := Lib.hid f2
             have HF4 := Lib.hid (show F'.k + 1000 < maxLen by rw [f4]; decide)
             have HP2 : Hid (2 <= σ.pages /\ σ.pages <= pm (i + 1)) := Lib.hid ⟨HAP.out.pg.1, by have := HPG.out; omega⟩
             have HN2 : Hid (N + σ.mine.length <= 1500 * (i + 1)) := Lib.hid (by have := HML.out; omega)
             obtain ⟨N', hN'⟩ : ∃ x, x = N + σ.mine.length := ⟨_, rfl⟩
             rw [<- hN'] at HRDY6 HN2
             obtain ⟨free, hfree⟩ : ∃ x, x = σ.free := ⟨_, rfl⟩
             obtain ⟨P', hP'⟩ : ∃ x, x = σ.pages := ⟨_, rfl⟩
             rw [<- hfree, <- hP'] at HTX
             rw [<- hfree] at HFRL HLOW6
             rw [<- hP'] at HLOW6 HPN HP2
             clear hfl f1 f2 f3 f4 HKP HOR HLM HFL HML HPG HAP hN' hfree hP' HBL HRDY HVER HLOW HOV
             go_wp2_with fail
             refine HRT.out.mono ?_
             rintro e w6 ⟨rfl, rfl⟩
             clear HRT
             have HTXN : Hid (∀ W R, F'.At W R -> TxC F' a.t 1500 free P' w6.heap.size W -> ∃ m k D, Txn W a.t m F'.f 1500 free P' k D) := Lib.hid fun W R hA h => h.txn hA (by obtain ⟨cc, c1, c2⟩ := HRDY6.out.on.c; exact c1.ok.size)
             have HPAG : Hid (Calls Tryz.prog 39 #[.pointer (some ⟨a.t, 0, none⟩)] w6 fun e w' => e = .returned (.int .i64 P') /\ w' = w6) := Lib.hid (by
               obtain ⟨R, _, _, hA⟩ := HRDY6.out.file
               obtain ⟨m, k, D, hx⟩ := HTXN.out w6 R hA HTX.out
               exact tpages_any a.t m F'.f 1500 k free P' D w6 hx)
             go_wp2_with fail
             refine HPAG.out.mono ?_
             rintro e w6 ⟨rfl, rfl⟩
             clear HPAG
             obtain ⟨nv, hnv⟩ : ∃ x, x = vs.length + 1 := ⟨_, rfl⟩
             have HNV := Lib.hid hnv
             have hvl : vs.length <= 8 := by have := HVL.out; omega
             have hown1 := (HOR6.out.r).raw (n := vs.length) (by simp) (s := 1) rfl
             have hb6 := HB6.out.size
             have HAPP1 : Hid (∀ v' w8, w8.ownsRow w.heap.size 3 1 v' (vs.length + 1) (intE.cells (vs.map VR.root) ++ (#[Value.int .i64 root1]).toList) -> w6.grownBy w8 (Value.slice Ar vs.length cr).ownBlock -> Below w.heap.size w6 w8 ->
                 ∃ A' c', v' = .slice A' nv c' /\ Hid (LO intE 3 w8 w.heap.size (.slice A' nv c') (vs.map VR.root ++ [root1]) /\ LO slE 32 w8 w.heap.size (.slice Al vs.length cl) (vs.map VR.hdr) /\ (∀ v ∈ vs, LO entE 38 w8 w.heap.size (.slice v.A v.es.length v.c) v.es) /\ LO entE 38 w8 w.heap.size (.slice Am es.length cm) es /\ FReady F' 1500 disk' N' (12000 + (7 - i) * 30000) w8 /\ TxC F' a.t 1500 free P' w6.heap.size w8 /\ Below w.heap.size w w8 /\ w6.heap.size <= w8.heap.size)) := Lib.hid fun v' w8 ho hg hb => by
               have h1 : LO intE 3 w8 w.heap.size v' (vs.map VR.root ++ [root1]) := LO.snoc (E := intE) (by simp) rfl rfl ho
               obtain ⟨A', c', e⟩ := h1.form
               have e2 : v' = .slice A' nv c' := by rw [e, hnv]; simp
               subst e2
               have hro := KeepL.row HOR6.out.r hg
               have hsd : ∀ g, (Value.slice Ar vs.length cr).ownBlock = some g -> ∃ cs, Blk w6 g 3 cs /\ w.heap.size <= g := fun g hg' => HOR6.out.r.blk_ hg'
               refine ⟨A', c', rfl, Lib.hid ⟨h1, hro _ _ _ _ _ _ HOR6.out.l (by decide), fun v hv => hro _ _ _ _ _ _ (HOR6.out.e v hv) (by decide), hro _ _ _ _ _ _ HLM6.out (by decide), HRDY6.out.fr (Fr.of_grown hg) (fun g hgB hS => ?_) (fun hS => ?_), HTX.out.fr (Fr.of_grown hg) (fun g hS => ?_), HB6.out.trans hb, hb.size⟩⟩
               · obtain ⟨cs, hB, _⟩ := hsd g hS
                 exact HRDY6.out.nblk hB (by decide) (by decide) (by decide) (by decide) hgB
               · obtain ⟨cs, hB, hl⟩ := hsd 0 hS
                 have := HHT.out.1
                 omega
               · obtain ⟨cs, hB, _⟩ := hsd g hS
                 exact .inr (.inr ⟨cs, _, hB, .inl rfl⟩)
             clear hnv
             go_upto_region 39 with (at_builtin; refine wpList_app1 rfl _ _ 55 rfl eiInt Tryz.underlying55 rfl (by decide) rfl hown1 rfl (by simp) rfl (by simp [Value.oneCell']) (by unfold maxLen; omega) (by omega) hb6 ?_; intro v' w8 hown' hgrow hbel _ _; obtain ⟨Ar', cr', rfl, HS8⟩ := HAPP1.out v' w8 hown' hgrow hbel)
             have HS8 := HS8
             have HVS : Hid (∀ v ∈ vs ++ [(⟨root1, es, tok1, ids1, Am, cm⟩ : VR)], Tp.VerAt disk' v.root v.es v.tok v.ids /\ v.tok <= 480) := Lib.hid fun v hv => by
               rcases List.mem_append.1 hv with hv | hv
               · exact HOV6.out v hv
               · obtain rfl : v = ⟨root1, es, tok1, ids1, Am, cm⟩ := by simpa using hv
                 exact ⟨HVER6.out, by have := HTK.out; show tok1 <= 480; omega⟩
             have hown2 := HS8.out.2.1.raw (n := vs.length) (by simp) (s := 1) rfl
             have hb8 := HS8.out.2.2.2.2.2.2.1.size
             have HAPP2 : Hid (∀ v' w9, w9.ownsRow w.heap.size 32 1 v' (vs.length + 1) (slE.cells (vs.map VR.hdr) ++ (#[Value.slice Am es.length cm]).toList) -> w8.grownBy w9 (Value.slice Al vs.length cl).ownBlock -> Below w.heap.size w8 w9 ->
                 ∃ A' c', v' = .slice A' nv c' /\ Hid (OldRows w.heap.size (vs ++ [(⟨root1, es, tok1, ids1, Am, cm⟩ : VR)]) Ar' cr' A' c' w9 /\ LO entE 38 w9 w.heap.size (.slice Am es.length cm) es /\ FReady F' 1500 disk' N' (12000 + (7 - i) * 30000) w9 /\ TxC F' a.t 1500 free P' w6.heap.size w9 /\ Below w.heap.size w w9 /\ w6.heap.size <= w9.heap.size)) := Lib.hid fun v' w9 ho hg hb => by
               obtain ⟨z1, z2, z3, z4, z5, z6, z7, z8⟩ := HS8.out
               have h1 : LO slE 32 w9 w.heap.size v' (vs.map VR.hdr ++ [(Am, es.length, cm)]) := LO.snoc (E := slE) (by simp) rfl rfl ho
               obtain ⟨A', c', e⟩ := h1.form
               have e2 : v' = .slice A' nv c' := by rw [e, HNV.out]; simp
               subst e2
               have hro := KeepL.row z2 hg
               have hsd : ∀ g, (Value.slice Al vs.length cl).ownBlock = some g -> ∃ cs, Blk w8 g 32 cs /\ w.heap.size <= g := fun g hg' => z2.blk_ hg'
               have hln : (vs ++ [(⟨root1, es, tok1, ids1, Am, cm⟩ : VR)]).length = nv := by rw [HNV.out]; simp
               refine ⟨A', c', rfl, Lib.hid ⟨⟨?_, ?_, fun v hv => ?_⟩, hro _ _ _ _ _ _ z4 (by decide), z5.fr (Fr.of_grown hg) (fun g hgB hS => ?_) (fun hS => ?_), z6.fr (Fr.of_grown hg) (fun g hS => ?_), z7.trans hb, Nat.le_trans z8 hb.size⟩⟩
               · rw [hln, List.map_append]
                 exact hro _ _ _ _ _ _ z1 (by decide)
               · rw [hln, List.map_append]
                 exact h1
               · rcases List.mem_append.1 hv with hv | hv
                 · exact hro _ _ _ _ _ _ (z3 v hv) (by decide)
                 · obtain rfl : v = ⟨root1, es, tok1, ids1, Am, cm⟩ := by simpa using hv
                   exact hro _ _ _ _ _ _ z4 (by decide)
               · obtain ⟨cs, hB, _⟩ := hsd g hS
                 exact z5.nblk hB (by decide) (by decide) (by decide) (by decide) hgB
               · obtain ⟨cs, hB, hl⟩ := hsd 0 hS
                 have := HHT.out.1
                 omega
               · obtain ⟨cs, hB, _⟩ := hsd g hS
                 exact .inr (.inr ⟨cs, _, hB, .inr rfl⟩)
             go_wp2_with (at_builtin; refine wpList_app1 rfl _ _ 78 rfl eiSlE Tryz.underlying78 rfl (by decide) rfl hown2 rfl (by simp) rfl (by simp [Value.oneCell']) (by unfold maxLen; omega) (by omega) hb8 ?_; intro v' w9 hown' hgrow hbel _ _; obtain ⟨Al', cl', rfl, HS9⟩ := HAPP2.out v' w9 hown' hgrow hbel)
             obtain ⟨vs2, hvs2⟩ : ∃ x, x = vs ++ [(⟨root1, es, tok1, ids1, Am, cm⟩ : VR)] := ⟨_, rfl⟩
             rw [<- hvs2] at HS9 HVS
             have HLN2 : Hid (vs2.length = nv) := Lib.hid (by rw [hvs2, HNV.out]; simp)
             have hnv9 : nv <= 8 := by have := HNV.out; have := HVL.out; omega
             have HSK : Hid (OldRows w.heap.size vs2 Ar' cr' Al' cl' w9 /\ LO entE 38 w9 w.heap.size (.slice Am es.length cm) es /\ FReady F' 1500 disk' N' (1160 * (8 - 0) + (7 - i) * 30000) w9 /\ TxC F' a.t 1500 free P' w6.heap.size w9 /\ Below w.heap.size w w9 /\ w6.heap.size <= w9.heap.size) := Lib.hid ⟨HS9.out.1, HS9.out.2.1, HS9.out.2.2.1.less (by omega), HS9.out.2.2.2⟩
             clear hvs2 HS8 HAPP1 HAPP2 hown1 hown2 hb6 hb8 HOR6 HLM6 HTX HB6 HOV6 HS9
             go_loopg [19] nv (fun gb s19 wr => ∃ k : Nat, s19 = .int .i64 (k : Nat) /\ k <= nv /\ nv - k <= gb /\ Hid (OldRows w.heap.size vs2 Ar' cr' Al' cl' wr /\ LO entE 38 wr w.heap.size (.slice Am es.length cm) es /\ FReady F' 1500 disk' N' (1160 * (8 - k) + (7 - i) * 30000) wr /\ TxC F' a.t 1500 free P' w6.heap.size wr /\ Below w.heap.size w wr /\ w6.heap.size <= wr.heap.size))
             case atStart => exact ⟨0, rfl, Nat.zero_le _, by omega, HSK⟩
             case round =>
               clear HSK
               obtain ⟨k, rfl, hkn, hkg, HK⟩ := hrel
               have hwk : IntKind.i64.wrap ((k : Int) + 1) = (k : Int) + 1 := IntWalk.i64_in _ (by omega)
               by_cases hk : k < nv
               · have hki : (k : Int) < (nv : Nat) := by omega
                 have hk2 : k < vs2.length := by rw [HLN2.out]; exact hk
                 obtain ⟨b2, o2, rfl, hb2, r0⟩ := (LO.sv HK.out.1.r).ls.int (k := k) (by simpa using hk2)
                 obtain ⟨b3, o3, rfl, hb3, l0⟩ := (LO.sv HK.out.1.l).ls.sl (k := k) (by simpa using hk2)
                 simp only [List.getElem_map] at r0 l0
                 obtain ⟨hver, htk⟩ := HVS.out vs2[k] (List.getElem_mem hk2)
                 have hrow := HK.out.1.e vs2[k] (List.getElem_mem hk2)
                 generalize hvk : vs2[k] = vk at *
                 have HVK := Lib.hid hvk
                 clear hvk
                 obtain ⟨rk, ek, tk, ik, Ak, ck⟩ := vk
                 simp only [VR.hdr] at hver htk hrow r0 l0
                 obtain ⟨rr, hrr⟩ : ∃ x, x = 1160 * (8 - (k + 1)) + (7 - i) * 30000 := ⟨_, rfl⟩
                 have hrd := HK.out.2.2.1.less (r' := rr + 1160) (by omega)
                 have HBW := Lib.hid HK.out.2.2.2.2.1
                 have HKF : Hid (∀ W, Below wr.heap.size wr W -> Calls Tryz.prog 40 #[.pointer (some ⟨a.t, 0, none⟩)] W fun e w' => ∃ A7 c7, e = .returned (.slice A7 free.length c7) /\ Hid (∀ W', Below w'.heap.size w' W' -> RS W' W'.heap.size A7 free) /\ Below wr.heap.size wr w') := Lib.hid fun W hW => by
                   obtain ⟨R, _, _, hA⟩ := (hrd.below hW).file
                   obtain ⟨m, k, D, hx⟩ := HTXN.out W R hA (HK.out.2.2.2.1.fr (S := fun _ => False) (.of_below hW) (fun _ h => h.elim))
                   refine (tfree_any a.t m F'.f 1500 k free P' D W hx (by have := HFRL.out; omega)).mono ?_
                   intro e w' he
                   obtain ⟨A7, c7, rfl, _, rs7, b7⟩ := he.open_
                   exact ⟨A7, c7, rfl, Lib.hid fun W' h' => (rs7.below h').more h'.size, hW.trans (b7.mono hW.size)⟩
                 have HKN : Hid (∀ W A7 c7, Below wr.heap.size wr W -> RS W W.heap.size A7 free -> Calls Tryz.prog 34 #[.pointer (some ⟨F.f, 0, none⟩), .slice A7 free.length c7, .int .i64 P'] W fun e w' => ∃ t3 m3, e = .returned (.pointer (some ⟨t3, 0, none⟩)) /\ Hid (∀ W', Below w'.heap.size w' W' -> TMd F' w'.heap.size t3 m3 1500 (Rp.minus [(2, P' - 1)] free) disk' (rr + 1160) (Tp.start free P') W') /\ Hid (wr.heap.size <= t3 /\ wr.heap.size <= m3 /\ F'.d < w'.heap.size) /\ Below wr.heap.size wr w') := Lib.hid fun W A7 c7 hW hrs => by
                   have hb := fr_begin (hrd.below hW) (by have := HN2.out; omega) A7 c7 free P' P' HPN.out hrs HFRL.out HLOW6.out
                   rw [HF2.out] at hb
                   refine hb.mono ?_
                   rintro e w' ⟨t3, m3, rfl, hM, ⟨q1, q2, q3⟩, b8⟩
                   exact ⟨t3, m3, rfl, Lib.hid fun W' h' => hM.below h', Lib.hid ⟨Nat.le_trans hW.size q1, Nat.le_trans hW.size q2, q3⟩, hW.trans (b8.mono hW.size)⟩
                 have HKC : Hid (∀ W B3 t3 m3, TMd F' B3 t3 m3 1500 (Rp.minus [(2, P' - 1)] free) disk' (rr + 1160) (Tp.start free P') W -> Below wr.heap.size wr W -> F'.d < B3 -> wr.heap.size <= t3 -> wr.heap.size <= m3 -> Calls Tryz.prog 33 #[.pointer (some ⟨t3, 0, none⟩), .int .i64 rk] W fun e w' => ∃ a3 : TAd, e = .returned (.pointer (some ⟨a3.u, 0, none⟩)) /\ Hid (∀ W', Below w'.heap.size w' W' -> FSt F' 1500 a3 (Rp.minus [(2, P' - 1)] free) disk' rk (Tp.start free P') ik ek tk (rr + 1160) W') /\ Hid (∀ x, SD F' a3.t a3.m x -> x = F'.d \/ wr.heap.size <= x) /\ Below wr.heap.size wr w') := Lib.hid fun W B3 t3 m3 hM hW hd3 h1 h2 => by
                   have HR' := hrd
                   refine (fst_new (root := rk) hM hd3 hver (by omega) (fun x y h => by obtain ⟨cc, c1, c2⟩ := HR'.on.c; exact (c2 x y h).2.1) (by decide) HLOW6.out).mono ?_
                   rintro e w' ⟨a3, rfl, rfl, rfl, hst, hu, b9⟩
                   exact ⟨a3, rfl, Lib.hid fun W' h' => hst.below h', Lib.hid fun x hx => (by
                     rcases hx with rfl | rfl | rfl
                     · exact .inr h1
                     · exact .inr h2
                     · exact .inl rfl), hW.trans (b9.mono hW.size)⟩
                 have HKL : Hid (LO entE 38 wr w.heap.size (.slice Ak ek.length ck) ek) := Lib.hid hrow
                 have HTK2 := Lib.hid htk
                 have HHR := Lib.hid hrd
                 clear hver htk hrow hrd
                 go_wp2
                 have hS0 : wr.cell? ⟨b2, o2 + k, none⟩ = some (.int .i64 rk) := r0
                 go_region_held3 (fun W => W.cell? ⟨b2, o2 + k, none⟩ = some (.int .i64 rk)) (first | exact hS0 | exact hS2 | exact hS3 | exact hS4)
                   (first
                   | (go_at_call 40; refine Calls.mono (HKF.out _ (by first | exact Below.refl _ _ | exact (Below.refl _ _).drew)) ?_; rintro e w10 ⟨A7, c7, rfl, HR7, hb7⟩; have hS2 : w10.cell? ⟨b2, o2 + k, none⟩ = some (.int .i64 rk) := (hb7.cell (p := ⟨b2, o2 + k, none⟩) hb2).trans hS0)
                   | (go_at_call 34; refine Calls.mono (HKN.out _ A7 c7 (by first | exact hb7 | exact hb7.drew) (HR7.out _ (by first | exact Below.refl _ _ | exact (Below.refl _ _).drew))) ?_; rintro e w11 ⟨t3, m3, rfl, HM8, HQ8, hb8⟩; have hS3 : w11.cell? ⟨b2, o2 + k, none⟩ = some (.int .i64 rk) := (hb8.cell (p := ⟨b2, o2 + k, none⟩) hb2).trans hS0)
                   | (go_at_call 33; refine Calls.mono (HKC.out _ _ t3 m3 (HM8.out _ (by first | exact Below.refl _ _ | exact (Below.refl _ _).drew)) (by first | exact hb8 | exact hb8.drew) HQ8.out.2.2 HQ8.out.1 HQ8.out.2.1) ?_; rintro e w12 ⟨a3, rfl, HM9, HQ9, hb9⟩; have hS4 : w12.cell? ⟨b2, o2 + k, none⟩ = some (.int .i64 rk) := (hb9.cell (p := ⟨b2, o2 + k, none⟩) hb2).trans hS0))
                 have HWH : Hid (∀ W, Below w12.heap.size w12 W -> Calls Tryz.prog 25 #[.pointer (some ⟨a3.u, 0, none⟩)] W fun e w' => ∃ A9 c9, e = .returned (.tuple #[.slice A9 ek.length c9, .bool true]) /\ Hid (LO entE 38 w' w.heap.size (.slice A9 ek.length c9) ek) /\ Hid (FReady F' 1500 disk' N' rr w') /\ Hid (Fr (fun x => x = F'.d \/ wr.heap.size <= x) wr w') /\ ek.length <= 480) := Lib.hid fun W hW => by
                   have hst := HM9.out W hW
                   have hf := hst.rt.few
                   have hl := hst.rt.len
                   have ht := HTK2.out
                   refine Calls.mono (wholeD_any (hst.less (show rr + 2 * ik.length <= rr + 1160 by omega)) (by omega)) ?_
                   rintro e w' ⟨A9, c9, rfl, r9, hst9, f9⟩
                   have hbW : Below wr.heap.size wr W := hb9.trans (hW.mono hb9.size)
                   exact ⟨A9, c9, rfl, Lib.hid (r9.lower (Nat.le_trans HBW.out.size hbW.size)), Lib.hid (FReady.of hst9.on.tm HHR.out.on), Lib.hid ((Fr.of_below hbW).trans (f9.more HQ9.out)), by omega⟩
                 clear HKF HKN HKC HM8 HQ8 HM9 HR7 hS0 hS2 hS3 hS4 hb7 hb8 r0
                 go_wp2_with fail
                 refine Calls.mono (HWH.out _ (by first | exact Below.refl _ _ | exact (Below.refl _ _).drew | exact below_drewN (Below.refl _ _) _)) ?_
                 rintro e wz ⟨A9, c9, rfl, HR9, HFZ, HFRZ, hel9⟩
                 have hkp : KeepL wr wz := fun α E ty base v l hl ht => lo_frb hl HFRZ.out fun g hg => by
                   obtain ⟨cs, hB, _⟩ := hl.blk_ hg
                   obtain ⟨R, _, _, hA⟩ := HHR.out.file
                   rintro (e | e)
                   · exact hB.ne_ hA.disk.self (by rcases ht with rfl | rfl | rfl <;> decide) e
                   · have := hB.lt; omega
                 have HRZ := Lib.hid (HK.out.1.keep hkp)
                 have HMZ := Lib.hid (hkp _ _ _ _ _ _ HK.out.2.1 (.inl rfl))
                 have HLZ := Lib.hid (hkp _ _ _ _ _ _ HKL.out (.inl rfl))
                 have HTZ : Hid (TxC F' a.t 1500 free P' w6.heap.size wz) := Lib.hid (HK.out.2.2.2.1.fr HFRZ.out (fun g hg => by
                   rcases hg with e | e
                   · exact .inl e
                   · exact .inr (.inl (Nat.le_trans HK.out.2.2.2.2.2 e))))
                 have HBZ : Hid (Below w.heap.size w wz /\ w6.heap.size <= wz.heap.size) := Lib.hid ⟨HBW.out.trans (HFRZ.out.low HBW.out.size (fun x hx => by
                   rcases hx with rfl | hx
                   · exact Nat.le_trans HF1.out HHR.out.dlt.1
                   · exact Nat.le_trans HBW.out.size hx)), Nat.le_trans HK.out.2.2.2.2.2 HFRZ.out.size⟩
                 obtain ⟨b4, o4, e4, hb4, l4⟩ := (LO.sv HRZ.out.l).ls.sl (k := k) (by simpa using hk2)
                 injection e4 with e4
                 injection e4 with e4 e5
                 subst e4 e5
                 simp only [List.getElem_map, HVK.out, VR.hdr] at l4
                 have HSM := Lib.hid (rsame_yes A9 Ak ek c9 ck wz (LO.sv HR9.out).ls (LO.sv HLZ.out).ls (by omega))
                 clear hkp HWH HR9 HLZ HK HKL HBW HHR HQ9 hb9 l0 hb2 hb3
                 go_wp2_with fail
                 refine HSM.out.mono ?_
                 rintro e wy ⟨rfl, by_⟩
                 have HKE : Hid (OldRows w.heap.size vs2 (some ⟨b2, o2, none⟩) cr' (some ⟨b3, o3, none⟩) cl' wy /\ LO entE 38 wy w.heap.size (.slice Am es.length cm) es /\ FReady F' 1500 disk' N' (1160 * (8 - (k + 1)) + (7 - i) * 30000) wy /\ TxC F' a.t 1500 free P' w6.heap.size wy /\ Below w.heap.size w wy /\ w6.heap.size <= wy.heap.size) := Lib.hid ⟨HRZ.out.keep (KeepL.of by_), HMZ.out.below by_, hrr ▸ HFZ.out.below by_, HTZ.out.fr (S := fun _ => False) (.of_below by_) (fun _ h => h.elim), HBZ.out.1.trans (by_.mono HBZ.out.1.size), Nat.le_trans HBZ.out.2 by_.size⟩
                 clear by_ HRZ HMZ HFZ HTZ HBZ HSM hrr
                 go_wp2
                 go_roundg (nv - (k + 1))
                 case measure => omega
                 case rel => exact ⟨k + 1, by go_num, by omega, Nat.le_refl _, HKE⟩
               · obtain rfl : k = nv := by omega
                 have hki : ¬ (k : Int) < (k : Nat) := by omega
                 have HEN : Hid (OutS w F.f (i + 1) P' root1 es vs2 wr /\ OldRows w.heap.size vs2 Ar' cr' Al' cl' wr /\ LO entE 38 wr w.heap.size (.slice Am es.length cm) es) := Lib.hid ⟨⟨⟨F', disk', N', tok1, ids1, HF2.out, HF4.out, HK.out.2.2.1.less (by omega), HN2.out, HVER6.out, by have := HTK.out; omega, HLOW6.out.nofree, HVS.out, HF1.out⟩, HP2.out, by rw [HLN2.out, HNV.out, HVL.out], HK.out.2.2.2.2.1⟩, HK.out.1, HK.out.2.1⟩
                 have HLNk := HLN2
                 clear HK HVS HLN2 HTXN
                 go_wp2
                 go_roundg (rl.length - (i + 1))
                 case measure => omega
                 case rel => exact ⟨i + 1, P', root1, es, Am, cm, vs2, Ar', cr', Al', cl', rfl, rfl, rfl, by rw [HLNk.out], by rw [HLNk.out], by go_num, by omega, Nat.le_refl _, by omega, Lib.hid HEN.out.1, Lib.hid HEN.out.2.1, Lib.hid HEN.out.2.2⟩
   · obtain rfl : i = rl.length := by omega
     have hii : ¬ (rl.length : Int) < (rl.length : Nat) := by omega
     have HB := Lib.hid HS.out.below
     clear HS HOR HLM
     go_wp2
     go_ret
     exact ⟨rfl, HB.out⟩
theorem told_any (A : Option Addr) (n c : Nat) (rl : List Sl) (fl : List (List TAct)) (w : World) (he : rl.length = n) (hr : LS slE w w.heap.size A rl) (hlen : fl.length = rl.length) (hx : ∀ i (h1 : i < rl.length) (h2 : i < fl.length), fl[i].length = rl[i].2.1 /\ LS tactE w w.heap.size rl[i].1 fl[i]) (hT : HT w) :
   Calls Tryz.prog 9 #[.slice A n c] w (TrueEnd w) := by
 subst he
 by_cases h : 8 < rl.length
 · exact told_big A c rl w h
 · exact told_main A c rl fl w hr hlen hx hT h
end Go.Proofs.YtpfplojkiloldaaGreatDoor
namespace Go.Proofs.YtpfplojkiloldaaGreatDoor
open Go.ChangeShapes Go.WideShapes Go.ChangeAt Go.RowKit
def laid3 : List (String × DataW Unit) := [("rootstock/crc.halves", Rows.laid_rootstock_crc_halves), ("unicode/utf8.acceptRanges", Rows.laid_unicode_utf8_acceptRanges), ("unicode/utf8.first", Rows.laid_unicode_utf8_first)]
theorem halves_hv : (Rows.laid_rootstock_crc_halves : DataW Unit) = .agg (Cc.hv.map fun n : Nat => .lit (.int .u32 (n : Int))) := by kernel_rfl
theorem ht_of {W : World} (h : laidMetH Tryz.prog laid3 W) : HT W := by
 rw [MakeChecks.laidMetH_plain _ _ _ (by kernel_rfl)] at h
 obtain ⟨ps, ⟨g, t, cs, fuel, p, q, hg, ht, hv, hd, _, _⟩, _⟩ := h
 obtain rfl := Option.some.inj ((show Tryz.prog.globalNamed "rootstock/crc.halves" = some 0 by kernel_rfl).symm.trans hg)
 obtain rfl := Option.some.inj ((show (Tryz.prog.globals[0]?).map (·.type) = some 229 by kernel_rfl).symm.trans ht)
 obtain ⟨xs, m, _, ex, _, hl, hel⟩ := DataW.trod_array Tryz.underlying229 hd
 have hc : ∀ r, r < 16 -> W.cell? ⟨0, r, none⟩ = some (.int .u32 ((Cc.hv.getD r 0 : Nat) : Int)) := by
   intro r hr
   have c5 : Tryz.prog.cellsOf 192 = 1 := by kernel_rfl
   have hE := hel r hr
   rw [c5, Nat.mul_one, List.getElem?_eq_getElem (by omega)] at hE
   obtain ⟨z, e1, e2, _⟩ := DataW.trod_int Tryz.underlying192 hE
   have hlen : Cc.hv.length = 16 := by decide
   rw [halves_hv] at ex
   have e3 : (xs.map (·.1)) = Cc.hv.map fun n : Nat => (DataW.lit (.int .u32 (n : Int)) : DataW Unit) := (DataW.agg.inj (Prod.mk.inj ex).1).symm
   have e4 : (xs.map (·.1))[r]? = (Cc.hv.map fun n : Nat => (DataW.lit (.int .u32 (n : Int)) : DataW Unit))[r]? := by rw [e3]
   rw [List.getElem?_map, List.getElem?_map, List.getElem?_eq_getElem (by omega : r < xs.length), List.getElem?_eq_getElem (by omega : r < Cc.hv.length), e2] at e4
   have hz : z = ((Cc.hv.getD r 0 : Nat) : Int) := by
     simp only [Option.map_some, Option.some.injEq, DataW.lit.injEq, Lit.int.injEq, true_and] at e4
     rw [e4, List.getD, List.getElem?_eq_getElem (by omega : r < Cc.hv.length)]; rfl
   rw [World.var?_cell hg hv r, <- hz]
   have : cs.toList[r]? = some (.int .u32 z) := by
     have h0 : ((cs.toList.drop r).take 1)[0]? = some (.int .u32 z) := by rw [e1]; rfl
     simpa using h0
   simpa using this
 exact ⟨World.block_lt_of_cell? W _ (hc 0 (by decide)), hc⟩
end Go.Proofs.YtpfplojkiloldaaGreatDoor
