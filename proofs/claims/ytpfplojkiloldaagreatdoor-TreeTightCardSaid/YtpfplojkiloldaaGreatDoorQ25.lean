/- The walk of alloc's Taken: slices.Sorted(maps.Keys(t.fresh)). A disk in memory: what is carried; the walks of at, Sectors, atomic's Add. The walk of disk.Read. The walk of disk.Write. Plain: the check of bytes. The walks of crc.Step, crc.Sum. Plain: what a page's bytes are. The walks of rootstockref01: Put, Int. The walk of chain.Body. -/
import Derived.Maps.OwnSet
import Derived.Laws.LoneSync
import Derived.RangeFuncOwn
import Derived.KernelRfl
import Derived.Laws.BitsAllLaws
import Derived.Test.YtpfplojkiloldaaGreatDoorQ00
import Derived.Test.YtpfplojkiloldaaGreatDoorQ01
import Derived.Test.YtpfplojkiloldaaGreatDoorQ06
import Derived.Test.YtpfplojkiloldaaGreatDoorQ15
import Derived.Test.YtpfplojkiloldaaGreatDoorQ23
import Derived.Test.YtpfplojkiloldaaGreatDoorQ24
namespace Go.Proofs.YtpfplojkiloldaaGreatDoor
open Go.RowKit Go.Shelf Go.Maps
theorem sortsC (m : Nat) : AnyZI.SortsIn Tryz.prog Tryz.sortedC_ren Fence.wide m :=
  ⟨fun blk off cap ss W hH hblk hsz => callsIn_wide.2 (AnyM.slices_Sort_int Tryz.sortC blk off cap ss W hH hblk hsz),
   fun p cap W => callsIn_wide.2 (AnyM.slices_Sort_int_none Tryz.sortC p cap W)⟩
theorem ints_cells (l : List Int) : intE.cells l = l.map (Value.int .i64) := by
  induction l with
  | nil => rfl
  | cons a l ih => rw [intE.cells_cons, ih]; rfl
/-- the keys, in order -/
def TakenEnd2 (D : DataW Value) (w : World) (e : Ending) (w' : World) : Prop := ∃ A c ss, e = .returned (.slice A ss.length c) ∧ ss.Perm (intKeys D) ∧ ss.length = Maps.size D ∧ LO intE 3 w' w.heap.size (.slice A ss.length c) ss ∧ Below w.heap.size w w'
set_option maxRecDepth 100000 in
set_option maxHeartbeats 1000000 in
theorem taken_list (t m f n k : Nat) (free : List Run) (pages : Int) (D : DataW Value) (w : World) (hk : k ≤ 1000000) (h : Txn w t m f n free pages k D) :
    Calls Tryz.prog 36 #[.pointer (some ⟨t, 0, none⟩)] w (TakenEnd2 D w) := by
  obtain ⟨_, ⟨v, h2, h3⟩, hown⟩ := h
  have hlt := h2.lt
  have hc := h2.cell 3
  have hsz := hown.size_le
  have hlen : (intKeys D).length = Maps.size D := by
    obtain ⟨es, rfl⟩ := hown.isMap
    simp [intKeys, Maps.size]
  refine (callsIn_wide (n := 6)).1 ?_
  have hbl := hown.lt
  have hseq : SeqGives Fence.wide 2 Tryz.prog 105 #[.pointer (some ⟨w.heap.size, 0, none⟩)] encZ (fun ss => ss.Perm (intKeys D)) (Maps.size D) (w.alloc (.cells #[.map (some m)] 122)) :=
    AnyZI.keys_gives (ρ := Tryz.keysC_ren) { Tryz.keysC with } Fence.wide _ trivial rfl (by omega) w.heap.size m k D _ (by simp) (by simp) (by
      obtain ⟨es, clock, hb, Ft, hs, hD⟩ := hown
      exact ⟨es, clock, (Below.heap_alloc _ _ m hbl).trans hb, Ft, hs, hD⟩)
  have cK : ∀ mb W, CallsIn Fence.wide 5 Tryz.prog 67 #[.map mb] W fun e w' => e = .returned (.func (.func 105) #[] #[.pointer (some ⟨W.heap.size, 0, none⟩)]) ∧ w' = W.alloc (.cells #[.map mb] 122) := fun mb W => AnyZI.keys_in Tryz.keysC Fence.wide 5 trivial rfl mb W
  have cS := AnyZI.sorted_in Tryz.sortedC Fence.wide 5 trivial trivial trivial trivial rfl (by omega) (sortsC _) (enters_of Tryz.func104 (by kernel_rfl) rfl) 105 #[.pointer (some ⟨w.heap.size, 0, none⟩)] trivial (enters_of Tryz.func105 (by kernel_rfl) rfl) _ _ (by unfold maxLen; omega) (by omega) _ hseq
  change CallsIn _ _ Tryz.prog 66 _ _ _ at cS
  have hfK : Fence.wide.fn 67 := trivial
  have hfS : Fence.wide.fn 66 := trivial
  refine callsIn_of_wp Tryz.func36 rfl trivial ?_ rfl
  simp only [Tryz.ntmps36, List.size_toArray, List.length_cons, List.length_nil, Nat.reduceAdd, Nat.reduceSub, Array.replicate_succ, Array.replicate_zero, List.push_toArray, List.append_toArray, List.nil_append, List.cons_append]
  gi_wp2_with (first
    | (gi_at_call 67; refine (cK _ _).mono ?_; rintro e w' ⟨rfl, rfl⟩)
    | (gi_at_call 66; refine cS.mono ?_; rintro e w' ⟨v, ss, rfl, hS, hrow, hnil, hb⟩))
  go_ret
  have hl : ss.length = Maps.size D := hS.length_eq.trans hlen
  have hb0 : Below w.heap.size w w' := ((Below.refl _ w).alloc (Nat.le_refl _) _).trans (hb.mono (by simp))
  have hzl : (ss.mergeSort fun x y => decide (x ≤ y)).length = ss.length := List.length_mergeSort ss
  have hzp : (ss.mergeSort fun x y => decide (x ≤ y)).Perm (intKeys D) := (List.mergeSort_perm ss _).trans hS
  have hLO : LO intE 3 w' w.heap.size v (ss.mergeSort fun x y => decide (x ≤ y)) := by
    unfold LO
    rw [ints_cells, hzl]
    exact own_lower hrow (by simp)
  obtain ⟨A, c, rfl⟩ := hLO.form
  exact ⟨A, c, _, rfl, hzp, hzl.trans hl, hLO, hb0⟩
theorem taken_said : TakenSaid := by
  intro t m f n k free pages D w hk h
  refine (taken_list t m f n k free pages D w hk h).mono ?_
  rintro e w' ⟨A, c, ss, rfl, _, hl, _, hb⟩
  exact ⟨A, c, by rw [hl], hb⟩
end Go.Proofs.YtpfplojkiloldaaGreatDoor
namespace Go.Proofs.YtpfplojkiloldaaGreatDoor
open Go.RowKit Go.Shelf
abbrev Bs := List UInt8
def str (s : Bs) : Value := .string ⟨s.toArray⟩
def strE : Enc Bs := ⟨fun s => [str s], 1, fun _ => rfl, by decide, fun x u hu => by simp at hu; subst hu; rfl⟩
def penE : Enc (Int × Bs) := ⟨fun x => [.int .i64 x.1, str x.2], 2, fun _ => rfl, by decide, fun x u hu => by simp at hu; rcases hu with rfl | rfl <;> rfl⟩
theorem eiPen : EI Tryz.prog 172 (.agg #[.int .i64 0, .string ⟨#[]⟩]) 2 24 := EI.mk (by kernel_rfl)
/-- how a sector's text reads in the map -/
def strR (v : Value) : Option (DataW Value × List MemPlace) :=
  match v with
  | .string _ => some (.held v, [])
  | _ => none
theorem strR_mk (s : ByteArray) : strR (.string s) = some (.held (.string s), []) := rfl
theorem strR_inv {v : Value} {z : DataW Value × List MemPlace} (h : strR v = some z) : ∃ s, v = .string s ∧ z = (.held v, []) := by
  unfold strR at h
  split at h
  · rename_i s
    exact ⟨s, rfl, by cases h; rfl⟩
  · cases h
theorem dkeyI {x : Int} (hx : (Lit.int .i64 x).wf = true) : keyOf Tryz.prog 3 (.int .i64 x) = some (.int .i64 x) := Maps.keyOf_int_mk Tryz.underlying3 hx
theorem dkeyedI : Maps.Keyed Tryz.prog 3 := Maps.int_keyed Tryz.underlying3
/-- a disk: what is sure, what sectors with pending writes read as, what is pending, when the power goes, is it gone, counts -/
structure Dk where
  sure : List Bs
  now : Int → Option Bs
  pend : List (Int × Bs)
  left : Int
  down : Bool
  reads : Int
  writes : Int
def NowOf (D : DataW Value) (now : Int → Option Bs) : Prop := ∀ (i : Int) (z : DataW Value), Maps.has D (.int .i64 i) = (now i).isSome ∧ D.atKey (.int .i64 i) z = match now i with
  | some s => .held (str s)
  | none => z
theorem NowOf.put {D : DataW Value} {now : Int → Option Bs} (h : NowOf D now) (hm : Maps.IsMap D) (i : Int) (s : Bs) : NowOf (D.put (.int .i64 i) (.held (str s))) (fun j => if j = i then some s else now j) := by
  intro j z
  by_cases e : j = i
  · subst e
    rw [Maps.has_put_same hm (by trivial), Maps.atKey_put_same hm (by trivial)]; simp
  · have hne : (Lit.int .i64 j) ≠ .int .i64 i := by intro e2; injection e2 with _ e2; exact e e2
    rw [Maps.has_put_other hne, Maps.atKey_put_other hne, (h j z).1, (h j z).2]; simp [e]
def dkCells (s m : Nat) (pv : Value) (D : Dk) : Array Value := #[.slice (some ⟨s, 0, none⟩) D.sure.length D.sure.length, .map (some m), pv, .int .i64 D.left, .bool D.down, .int .i64 D.reads, .int .i64 D.writes]
/-- the disk at d; k: no more entries in its map -/
structure DAt (w : World) (B d k : Nat) (D : Dk) (s m : Nat) (pv : Value) (Dm : DataW Value) : Prop where
  le : B ≤ d ∧ B ≤ s ∧ B ≤ m
  self : Blk w d 110 (dkCells s m pv D)
  sure : Blk w s 9 (D.sure.map str).toArray
  map : w.ownsMap Tryz.prog 3 strR m k Dm
  now : NowOf Dm D.now
  pend : LO penE 172 w B pv D.pend
def DkAt (w : World) (B d k : Nat) (D : Dk) : Prop := ∃ s m pv Dm, DAt w B d k D s m pv Dm
theorem DAt.keep {w w' : World} {B d k : Nat} {D : Dk} {s m : Nat} {pv : Value} {Dm : DataW Value} (h : DAt w B d k D s m pv Dm) (hb : Below w.heap.size w w') : DAt w' B d k D s m pv Dm :=
  ⟨h.le, h.self.below hb h.self.lt, h.sure.below hb h.sure.lt, h.map.kept (only_of_below hb none) (by simp), h.now, h.pend.below hb⟩
theorem DkAt.keep {w w' : World} {B d k : Nat} {D : Dk} (h : DkAt w B d k D) (hb : Below w.heap.size w w') : DkAt w' B d k D := by
  obtain ⟨s, m, pv, Dm, h⟩ := h
  exact ⟨s, m, pv, Dm, h.keep hb⟩
/-- what is wrong with a sector -/
def Dk.at_ (D : Dk) (i : Int) : Int := if D.down then 4 else if i < 0 ∨ (D.sure.length : Int) ≤ i then 40 else 0
set_option maxRecDepth 100000 in
theorem at_any {w : World} {B d k : Nat} {D : Dk} (h : DkAt w B d k D) (i : Int) :
    Calls Tryz.prog 99 #[.pointer (some ⟨d, 0, none⟩), .int .i64 i] w fun e w' => e = .returned (.int .i64 (D.at_ i)) ∧ w' = w := by
  obtain ⟨s, m, pv, Dm, h⟩ := h
  have h0 := h.self.cell 0
  have h4 := h.self.cell 4
  simp only [dkCells] at h0 h4
  unfold Dk.at_
  cases hd : D.down with
  | true =>
    rw [hd] at h4
    go_enter Tryz.func99, Tryz.ntmps99
    go_wp2
    go_ret
    exact ⟨rfl, rfl⟩
  | false =>
    rw [hd] at h4
    rw [if_neg (by simp)]
    by_cases hi : i < 0
    · rw [if_pos (.inl hi)]
      have hq : decide (i < 0) = true := by simpa using hi
      go_enter Tryz.func99, Tryz.ntmps99
      go_wp2
      go_ret
      exact ⟨rfl, rfl⟩
    · have hq : decide (i < 0) = false := by simpa using hi
      by_cases hn : (D.sure.length : Int) ≤ i
      · rw [if_pos (.inr hn)]
        have hq2 : decide ((D.sure.length : Int) ≤ i) = true := by simpa using hn
        generalize D.sure.length = n at *
        go_enter Tryz.func99, Tryz.ntmps99
        go_wp2
        go_ret
        exact ⟨rfl, rfl⟩
      · rw [if_neg (by omega)]
        have hq2 : decide ((D.sure.length : Int) ≤ i) = false := by simpa using hn
        generalize D.sure.length = n at *
        go_enter Tryz.func99, Tryz.ntmps99
        go_wp2
        go_ret
        exact ⟨rfl, rfl⟩
theorem addE : Extern.find Tryz.f139 = some (Extern.Atomic.update (Op.intArith .add) .i64 true) := rfl
set_option maxRecDepth 100000 in
theorem tick_any (d j : Nat) (x : Int) (w : World) (hc : w.cell? ⟨d, j, none⟩ = some (.int .i64 x)) (hf : w.frozen? ⟨d, j, none⟩ = false) (hx : 0 ≤ x ∧ x < 4611686018427387904) :
    Calls Tryz.prog 100 #[.pointer (some ⟨d, j, none⟩), .int .i64 1] w fun e w' => ∃ v, e = .returned v ∧ w' = w.setCell ⟨d, j, none⟩ (.int .i64 (x + 1)) := by
  have hw : IntKind.i64.wrap (x + 1) = x + 1 := IntWalk.i64_in _ (by omega)
  have hrun := run_call_add (P := Tryz.prog) (f := 139) Tryz.func139 (by kernel_rfl) (by kernel_rfl) (by kernel_rfl) .i64 addE (s := IntKind.i64.wrap (x + 1)) (y := 1) hc hf (by simp [Op.intArith, go_sem])
  rw [hw] at hrun
  go_enter Tryz.func100, Tryz.ntmps100
  go_wp2
  go_ret
  exact ⟨_, rfl, rfl⟩
end Go.Proofs.YtpfplojkiloldaaGreatDoor
namespace Go.Proofs.YtpfplojkiloldaaGreatDoor
open Go.RowKit Go.Shelf
section
variable {w : World} {B d k : Nat} {D : Dk} {s m : Nat} {pv : Value} {Dm : DataW Value}
theorem DAt.mne (h : DAt w B d k D s m pv Dm) {g : Nat} {ty : TypeId} {cs : Array Value} (hg : Blk w g ty cs) : m ≠ g := by
  intro e
  obtain ⟨es, clock, hb, -⟩ := h.map
  subst e
  have := hb.symm.trans hg
  cases this
theorem DAt.turn (h : DAt w B d k D s m pv Dm) (j : Nat) (u : Value) (D' : Dk) (hD : (dkCells s m pv D).setIfInBounds j u = dkCells s m pv D') (hs : D'.sure = D.sure) (hn : D'.now = D.now) (hp : D'.pend = D.pend) :
    DAt (w.setCell ⟨d, j, none⟩ u) B d k D' s m pv Dm where
  le := h.le
  self := by have := h.self.set_ j u; rwa [hD] at this
  sure := by rw [hs]; exact h.sure.far (h.sure.ne_ h.self (by decide)) u
  map := h.map.kept (only_setCell (p := ⟨d, j, none⟩) (World.grownBy.refl w (some d)) (.inl rfl) u) (fun e => h.mne h.self (Option.some.inj e))
  now := by rw [hn]; exact h.now
  pend := by rw [hp]; exact h.pend.set_ h.self (by decide)
theorem grown_set (w : World) (d j : Nat) (u : Value) : w.grownBy (w.setCell ⟨d, j, none⟩ u) (some d) := only_setCell (p := ⟨d, j, none⟩) (World.grownBy.refl w (some d)) (.inl rfl) u
end
def Dk.get (D : Dk) (i : Int) : Bs := match D.now i with
  | some s => s
  | none => D.sure.getD i.toNat []
theorem at_zero {D : Dk} {i : Int} (h : D.at_ i = 0) : D.down = false ∧ 0 ≤ i ∧ i < D.sure.length := by
  unfold Dk.at_ at h
  split at h
  · cases h
  · split at h
    · cases h
    · rename_i h1 h2
      exact ⟨by simpa using h1, by omega, by omega⟩
set_option maxRecDepth 100000 in
set_option maxHeartbeats 1000000 in
theorem read_ok {w : World} {B d k : Nat} {D : Dk} (h : DkAt w B d k D) (i : Int) (hi : D.at_ i = 0) (hw : (Lit.int .i64 i).wf = true) (hr : 0 ≤ D.reads ∧ D.reads < 4611686018427387904) :
    Calls Tryz.prog 157 #[.pointer (some ⟨d, 0, none⟩), .int .i64 i] w fun e w' => e = .returned (.tuple #[str (D.get i), .int .i64 0]) ∧ DkAt w' B d k { D with reads := D.reads + 1 } ∧ w.grownBy w' (some d) ∧ w'.cell? ⟨d, 1, none⟩ = w.cell? ⟨d, 1, none⟩ := by
  obtain ⟨s, m, pv, Dm, h⟩ := h
  obtain ⟨hdn, hi0, hin⟩ := at_zero hi
  obtain ⟨n, rfl⟩ := Int.eq_ofNat_of_zero_le hi0
  have hn : n < D.sure.length := by omega
  have h5 := h.self.cell 5
  have f5 := h.self.frozen 5
  simp only [dkCells] at h5
  have h1 := h.turn 5 (.int .i64 (D.reads + 1)) { D with reads := D.reads + 1 } rfl rfl rfl rfl
  have hg := grown_set w d 5 (.int .i64 (D.reads + 1))
  have htk := tick_any d 5 D.reads w h5 f5 hr
  have g0 := h1.self.cell 0
  have g1 := h1.self.cell 1
  simp only [dkCells] at g0 g1
  have hsz : (dkCells s m pv D).size = 7 := rfl
  obtain ⟨v, ps, hlook, hv⟩ := h1.map.look_ok dkeyedI Tryz.underlying102 (Tryz.zeroValue9 (w.setCell ⟨d, 5, none⟩ (.int .i64 (D.reads + 1)))) (strR_mk _) (dkeyI hw)
  have hnow := h1.now n (.held (.string ⟨#[]⟩))
  have hsl := h1.sure.cell n
  rw [show ((D.sure.map str).toArray)[n]? = some (str D.sure[n]) by simp [hn]] at hsl
  have hsn : s < (w.setCell ⟨d, 5, none⟩ (.int .i64 (D.reads + 1))).heap.size := h1.sure.lt
  have hfin : DkAt (w.setCell ⟨d, 5, none⟩ (.int .i64 (D.reads + 1))) B d k { D with reads := D.reads + 1 } := ⟨s, m, pv, Dm, h1⟩
  have HF := Lib.hid hfin
  have HG := Lib.hid (And.intro hg (World.cell?_setCell_other w ⟨d, 5, none⟩ ⟨d, 1, none⟩ (.int .i64 (D.reads + 1)) (by simp)))
  have hget : D.get n = match D.now n with
      | some t => t
      | none => D.sure.getD n [] := rfl
  rw [hget]
  have hv2 := strR_inv hv
  obtain ⟨s', rfl, hz⟩ := hv2
  rw [hnow.2] at hz
  rw [hnow.1] at hlook
  have hat := fun W (hW : W = w) => (hW ▸ at_any ⟨s, m, pv, Dm, h⟩ (n : Int) : Calls Tryz.prog 99 #[.pointer (some ⟨d, 0, none⟩), .int .i64 n] W fun e w' => e = .returned (.int .i64 (D.at_ n)) ∧ w' = W)
  have hat2 := hat w rfl
  rw [hi] at hat2
  rw [List.getD_eq_getElem?_getD, List.getElem?_eq_getElem hn, Option.getD_some]
  generalize D.sure[n] = sn at *
  cases hD : D.now n with
  | some t =>
    rw [hD] at hz hlook
    simp only [Option.isSome_some] at hlook
    have hs' : Value.string s' = str t := by
      have := (Prod.mk.inj hz).1
      injection this with this
      exact this.symm
    rw [hs'] at hlook
    unfold str at *
    simp only
    generalize D.sure.length = N at *
    clear hfin hg h h1 hnow hv hz hs' hat hget
    go_enter Tryz.func157, Tryz.ntmps157
    go_wp2_with fail
    refine Calls.mono hat2 ?_
    rintro e w1 ⟨rfl, rfl⟩
    go_wp2_with fail
    refine Calls.mono htk ?_
    rintro e w2 ⟨v2, rfl, rfl⟩
    go_wp2
    go_ret2
    exact ⟨rfl, HF.out, HG.out.1, HG.out.2⟩
  | none =>
    rw [hD] at hz hlook
    simp only [Option.isSome_none] at hlook
    have hs' : s' = ⟨#[]⟩ := by
      have := (Prod.mk.inj hz).1
      injection this with this
      injection this with this
      exact this.symm
    rw [hs'] at hlook
    unfold str at *
    simp only
    have hni : (n : Int) < D.sure.length := hin
    generalize D.sure.length = N at *
    clear hfin hg h h1 hnow hv hz hs' hat hget
    go_enter Tryz.func157, Tryz.ntmps157
    go_wp2_with fail
    refine Calls.mono hat2 ?_
    rintro e w1 ⟨rfl, rfl⟩
    go_wp2_with fail
    refine Calls.mono htk ?_
    rintro e w2 ⟨v2, rfl, rfl⟩
    go_wp2
    go_ret2
    exact ⟨rfl, HF.out, HG.out.1, HG.out.2⟩
set_option maxRecDepth 100000 in
theorem read_bad {w : World} {B d k : Nat} {D : Dk} (h : DkAt w B d k D) (i : Int) (hi : D.at_ i ≠ 0) :
    Calls Tryz.prog 157 #[.pointer (some ⟨d, 0, none⟩), .int .i64 i] w fun e w' => e = .returned (.tuple #[str [], .int .i64 (D.at_ i)]) ∧ w' = w := by
  have hat := at_any h i
  generalize D.at_ i = x at *
  have hx : (x != 0) = true := by simpa using hi
  unfold str
  clear h
  go_enter Tryz.func157, Tryz.ntmps157
  go_wp2_with fail
  refine Calls.mono hat ?_
  rintro e w1 ⟨rfl, rfl⟩
  go_wp2
  go_ret2
  exact ⟨rfl, rfl⟩
end Go.Proofs.YtpfplojkiloldaaGreatDoor
namespace Go.Proofs.YtpfplojkiloldaaGreatDoor
open Go.RowKit Go.Shelf
section
variable {w w2 : World} {B d k : Nat} {D : Dk} {s m : Nat} {pv v' : Value} {Dm : DataW Value}
theorem DAt.push_self (h : DAt w B d k D s m pv Dm) (hg : w.grownBy w2 pv.ownBlock) : Blk w2 d 110 (dkCells s m pv D) :=
  h.self.grown hg (fun e => own_blk_ne (h.pend.raw rfl rfl) h.self (by decide) e.symm)
theorem DAt.push (h : DAt w B d k D s m pv Dm) (hg : w.grownBy w2 pv.ownBlock) (i : Int) (t : Bs) (ho : w2.ownsRow B 172 2 v' (D.pend.length + 1) (penE.cells D.pend ++ [.int .i64 i, str t])) :
    DAt (w2.setCell ⟨d, 2, none⟩ v') B d k { D with pend := D.pend ++ [(i, t)] } s m v' Dm where
  le := h.le
  self := (h.push_self hg).set_ 2 v'
  sure := (h.sure.grown hg (fun e => own_blk_ne (h.pend.raw rfl rfl) h.sure (by decide) e.symm)).far (h.sure.ne_ h.self (by decide)) v'
  map := (h.map.kept hg (fun e => by
      obtain ⟨cs, hcs⟩ := own_obj (h.pend.raw rfl rfl) e.symm
      obtain ⟨es, clock, hb, -⟩ := h.map
      have := hb.symm.trans hcs
      cases this)).kept (only_setCell (p := ⟨d, 2, none⟩) (World.grownBy.refl w2 (some d)) (.inl rfl) v') (fun e => h.mne h.self (Option.some.inj e))
  now := h.now
  pend := (LO.snoc (E := penE) (x := (i, t)) rfl rfl rfl ho).set_ (h.push_self hg) (by decide)
theorem DAt.stored (h : DAt w B d k D s m pv Dm) (i : Int) (t : Bs) (hw : w2.ownsMap Tryz.prog 3 strR m (k + 1) (Dm.put (.int .i64 i) (.held (str t)))) (hg : w.grownBy w2 (some m)) :
    DAt w2 B d (k + 1) { D with now := fun j => if j = i then some t else D.now j } s m pv (Dm.put (.int .i64 i) (.held (str t))) where
  le := h.le
  self := h.self.grown hg (fun e => h.mne h.self (Option.some.inj e).symm)
  sure := h.sure.grown hg (fun e => h.mne h.sure (Option.some.inj e).symm)
  map := hw
  now := h.now.put (h.map.tidy dkeyedI).isMap i t
  pend := h.pend.keep hg (fun r e => by
    cases e
    obtain ⟨es, clock, hb, -⟩ := h.map
    exact ⟨_, hb, fun cs e => by cases e⟩)
end
/-- blocks of other types are as they were -/
def Kept (w w' : World) : Prop := ∀ (g : Nat) (t : TypeId) (cs : Array Value), Blk w g t cs → t ≠ 110 → t ≠ 172 → Blk w' g t cs
theorem Kept.refl (w : World) : Kept w w := fun _ _ _ h _ _ => h
theorem Kept.trans {a b c : World} (h : Kept a b) (h2 : Kept b c) : Kept a c := fun g t cs hb h1 h3 => h2 g t cs (h g t cs hb h1 h3) h1 h3
theorem Kept.set_ {a w : World} (h : Kept a w) {d j : Nat} {cs : Array Value} (hd : Blk w d 110 cs) (u : Value) : Kept a (w.setCell ⟨d, j, none⟩ u) := fun g t cs' hb h1 h3 => by
  have h4 := h g t cs' hb h1 h3
  exact h4.far (p := ⟨d, j, none⟩) (h4.ne_ hd h1) u
theorem Kept.below {w w' : World} (h : Below w.heap.size w w') : Kept w w' := fun _ _ _ hb _ _ => hb.below h hb.lt
theorem LO.kept {α : Type} {E : Enc α} {ty : TypeId} {w w' : World} {base : Nat} {v : Value} {l : List α} (h : LO E ty w base v l) (hk : Kept w w') (h1 : ty ≠ 110) (h2 : ty ≠ 172) : LO E ty w' base v l := by
  rcases h with ⟨h3, h4 | ⟨g, cap, cur, hv, hb, hh, r⟩⟩
  · exact ⟨h3, .inl h4⟩
  · exact ⟨h3, .inr ⟨g, cap, cur, hv, hb, hk g ty _ hh h1 h2, r⟩⟩
/-- what is no cells is as it was, but for block m -/
def OthM (m : Nat) (w w' : World) : Prop := ∀ (k : Nat) (o : Obj), w.heap[k]? = some o → o.isCells = false → k ≠ m → w'.heap[k]? = some o
theorem OthM.refl (m : Nat) (w : World) : OthM m w w := fun _ _ h _ _ => h
theorem OthM.trans {m : Nat} {a b c : World} (h : OthM m a b) (g : OthM m b c) : OthM m a c := fun k o hk h1 h2 => g k o (h k o hk h1 h2) h1 h2
theorem OthM.set_ {m : Nat} {a w : World} (h : OthM m a w) (p : Addr) (u : Value) : OthM m a (w.setCell p u) := fun k o hk h1 h2 => (KeepsOthers.setCell w p u).same k o (h k o hk h1 h2) h1
theorem OthM.grown {m : Nat} {w w' : World} {row : Option Nat} (hg : w.grownBy w' row) (hr : ∀ r, row = some r → ∃ o, w.heap[r]? = some o ∧ o.isCells = true) : OthM m w w' := fun k o hk h1 _ =>
  (hg.block k (Array.getElem?_eq_some_iff.1 hk).1 (fun e => by
    obtain ⟨o2, h2, h3⟩ := hr k e.symm
    rw [hk] at h2
    cases h2
    rw [h1] at h3
    cases h3)).trans hk
theorem OthM.turn {m : Nat} {w w' : World} (hg : w.grownBy w' (some m)) : OthM m w w' := fun k _ hk _ h2 => (hg.block k (Array.getElem?_eq_some_iff.1 hk).1 (fun e => h2 (Option.some.inj e))).trans hk
theorem OthM.below {m : Nat} {w w' : World} (hb : Below w.heap.size w w') : OthM m w w' := fun k _ hk _ _ => (hb.block k (Array.getElem?_eq_some_iff.1 hk).1).trans hk
/-- a disk turned, its map the same block -/
def DkStep (B d k k' : Nat) (D D' : Dk) (w w' : World) : Prop := ∃ s m pv Dm pv' Dm', DAt w B d k D s m pv Dm ∧ DAt w' B d k' D' s m pv' Dm' ∧ OthM m w w'
/-- what a write makes of a disk, behind what is pending -/
def Dk.put (D : Dk) (i : Int) (t : Bs) : Dk := { D with writes := D.writes + 1, pend := D.pend ++ [(i, t)], now := fun j => if j = i then some t else D.now j }
def Dk.wrote (D : Dk) (i : Int) (t : Bs) : Dk := if D.left = 0 then { D.put i t with down := true, left := -1 } else if 0 < D.left then { D.put i t with left := D.left - 1 } else D.put i t
def Dk.wroteE (D : Dk) : Int := if D.left = 0 then 4 else 0
set_option maxRecDepth 100000 in
set_option maxHeartbeats 2000000 in
theorem write_ok2 {w : World} {B d k : Nat} {D : Dk} (h : DkAt w B d k D) (i : Int) (t : Bs) (hi : D.at_ i = 0) (ht : t.length = 256) (hk : k < maxLen) (hw : (Lit.int .i64 i).wf = true) (hr : 0 ≤ D.writes ∧ D.writes < 4611686018427387904) (hl : D.left ≤ 9223372036854775807) (hp : D.pend.length ≤ 1000000) (hB : B ≤ w.heap.size) :
    Calls Tryz.prog 63 #[.pointer (some ⟨d, 0, none⟩), .int .i64 i, str t] w fun e w' => e = .returned (.int .i64 D.wroteE) ∧ DkStep B d k (k + 1) D (D.wrote i t) w w' ∧ Below B w w' ∧ Kept w w' := by
  have hat := at_any h i
  rw [hi] at hat
  obtain ⟨s, m, pv, Dm, h⟩ := h
  have HH := Lib.hid h
  have h6 := h.self.cell 6
  have f6 := h.self.frozen 6
  simp only [dkCells] at h6
  have htk := tick_any d 6 D.writes w h6 f6 hr
  have h1 := h.turn 6 (.int .i64 (D.writes + 1)) { D with writes := D.writes + 1 } rfl rfl rfl rfl
  have hbw1 : Below B w (w.setCell ⟨d, 6, none⟩ (.int .i64 (D.writes + 1))) := below_of_grown (grown_set w d 6 _) hB h.le.1
  have hk1 : Kept w (w.setCell ⟨d, 6, none⟩ (.int .i64 (D.writes + 1))) := (Kept.refl w).set_ h.self _
  have ho1 : OthM m w (w.setCell ⟨d, 6, none⟩ (.int .i64 (D.writes + 1))) := (OthM.refl m w).set_ _ _
  generalize w.setCell ⟨d, 6, none⟩ (.int .i64 (D.writes + 1)) = w1 at *
  obtain ⟨A, c, rfl⟩ := h1.pend.form
  have g2 := h1.self.cell 2
  simp only [dkCells] at g2
  have hown := h1.pend.raw rfl (s := 2) rfl
  unfold str
  simp only at g2 hown
  have hB1 : B ≤ w1.heap.size := Nat.le_trans hB hbw1.size
  have hn1 : D.pend.length + 1 ≤ maxLen := by unfold maxLen; omega
  have hn2 : (D.pend.length + 1) * 24 ≤ 140737488355328 := by omega
  have hle := h.le.1
  have hlm := h.le.2.2
  have hfacts : ∀ A' c' w2, w2.ownsRow B 172 2 (.slice A' (D.pend.length + 1) c') (D.pend.length + 1) (penE.cells D.pend ++ [.int .i64 i, .string ⟨t.toArray⟩]) → w1.grownBy w2 (Value.slice A D.pend.length c).ownBlock → Below B w1 w2 →
      w2.cell? ⟨d, 2, none⟩ = some (.slice A D.pend.length c) ∧ w2.frozen? ⟨d, 2, none⟩ = false ∧ (w2.setCell ⟨d, 2, none⟩ (.slice A' (D.pend.length + 1) c')).cell? ⟨d, 1, none⟩ = some (.map (some m)) ∧
      ∃ w4, (Instr.mapUpdate 102 (.map (some m)) (.int .i64 i) (.string ⟨t.toArray⟩)).run Tryz.prog (w2.setCell ⟨d, 2, none⟩ (.slice A' (D.pend.length + 1) c')) = .ok () w4 ∧
        DAt w4 B d (k + 1) (D.put i t) s m (.slice A' (D.pend.length + 1) c') (Dm.put (.int .i64 i) (.held (str t))) ∧ Below B w w4 ∧ w4.cell? ⟨d, 3, none⟩ = some (.int .i64 D.left) ∧ w4.cell? ⟨d, 4, none⟩ = some (.bool D.down) ∧ w4.frozen? ⟨d, 3, none⟩ = false ∧ w4.frozen? ⟨d, 4, none⟩ = false ∧ Kept w w4 ∧ Hid (OthM m w w4) := by
    intro A' c' w2 hown' hgrow hbel
    have hb2 := h1.push_self hgrow
    have h3 := h1.push hgrow i t hown'
    have hbw3 : Below B w (w2.setCell ⟨d, 2, none⟩ (.slice A' (D.pend.length + 1) c')) := (hbw1.trans hbel).setCell (by exact hle) _
    obtain ⟨w4, hrun, hmap, hturn⟩ := h3.map.store dkeyedI Tryz.underlying102 hk (dkeyI hw) (strR_mk ⟨t.toArray⟩)
    have h4 := h3.stored i t hmap hturn.grown
    have hbw4 : Below B w w4 := hbw3.grown hturn.grown (Nat.le_trans hB hbw3.size) (fun r e => by cases e; exact hlm)
    have hka : Kept w1 w2 := fun g t cs hb e1 e2 => hb.grown hgrow (fun e => own_blk_ne hown hb (Ne.symm e2) e.symm)
    have hkb := (hk1.trans hka).set_ (j := 2) hb2 (.slice A' (D.pend.length + 1) c')
    have hkp : Kept w w4 := fun g t cs hb e1 e2 => (hkb g t cs hb e1 e2).grown hturn.grown (fun e => h3.mne (hkb g t cs hb e1 e2) (Option.some.inj e).symm)
    exact ⟨hb2.cell 2, hb2.frozen 2, h3.self.cell 1, w4, hrun, h4, hbw4, h4.self.cell 3, h4.self.cell 4, h4.self.frozen 3, h4.self.frozen 4, hkp, Lib.hid (((ho1.trans (OthM.grown hgrow (fun r e => by obtain ⟨cs, hcs⟩ := own_obj hown e; exact ⟨_, hcs, rfl⟩))).set_ _ _).trans (OthM.turn hturn.grown))⟩
  by_cases h0 : D.left = 0
  · have hwr : D.wrote i t = { D.put i t with down := true, left := -1 } := by unfold Dk.wrote; rw [if_pos h0]
    have hwe : D.wroteE = 4 := by unfold Dk.wroteE; rw [if_pos h0]
    have HW := Lib.hid hwr
    have HE := Lib.hid hwe
    have hq : (D.left == 0) = true := by simpa using h0
    clear hwr hwe h0
    go_enter Tryz.func63, Tryz.ntmps63
    go_wp2_with fail
    refine Calls.mono hat ?_
    rintro e w0 ⟨rfl, rfl⟩
    go_wp2_with fail
    refine Calls.mono htk ?_
    rintro e w0 ⟨v2, rfl, rfl⟩
    go_wp2_with (at_builtin; refine wpList_app1 rfl (.tmp 25) (.tmp 29) 103 rfl eiPen Tryz.underlying103 rfl (by decide) rfl hown rfl (by simp) rfl (by simp [Value.oneCell']) hn1 hn2 hB1 ?_; intro v' w2 hown' hgrow hbel _ _
                 obtain ⟨A', c', rfl⟩ := own_form hown'
                 obtain ⟨k2, m2, k31, w4, hrun, h4, hbw4, k43, k44, m43, m44, hkp, hoM⟩ := hfacts A' c' w2 hown' hgrow hbel)
    go_ret
    exact ⟨by rw [HE.out]; rfl, ⟨s, m, _, _, _, _, HH.out, by rw [HW.out]; exact (h4.turn 4 (.bool true) { D.put i t with down := true } rfl rfl rfl rfl).turn 3 (.int .i64 (-1)) _ rfl rfl rfl rfl, (hoM.out.set_ _ _).set_ _ _⟩, (hbw4.setCell hle _).setCell hle _, (hkp.set_ h4.self _).set_ (h4.turn 4 (.bool true) { D.put i t with down := true } rfl rfl rfl rfl).self _⟩
  have hwe : D.wroteE = 0 := by unfold Dk.wroteE; rw [if_neg h0]
  have HE := Lib.hid hwe
  have hq : (D.left == 0) = false := by simpa using h0
  clear hwe
  by_cases hp0 : 0 < D.left
  · have hwr : D.wrote i t = { D.put i t with left := D.left - 1 } := by unfold Dk.wrote; rw [if_neg h0, if_pos hp0]
    have HW := Lib.hid hwr
    have hq2 : decide (0 < D.left) = true := by simpa using hp0
    clear hwr
    go_enter Tryz.func63, Tryz.ntmps63
    go_wp2_with fail
    refine Calls.mono hat ?_
    rintro e w0 ⟨rfl, rfl⟩
    go_wp2_with fail
    refine Calls.mono htk ?_
    rintro e w0 ⟨v2, rfl, rfl⟩
    go_wp2_with (at_builtin; refine wpList_app1 rfl (.tmp 25) (.tmp 29) 103 rfl eiPen Tryz.underlying103 rfl (by decide) rfl hown rfl (by simp) rfl (by simp [Value.oneCell']) hn1 hn2 hB1 ?_; intro v' w2 hown' hgrow hbel _ _
                 obtain ⟨A', c', rfl⟩ := own_form hown'
                 obtain ⟨k2, m2, k31, w4, hrun, h4, hbw4, k43, k44, m43, m44, hkp, hoM⟩ := hfacts A' c' w2 hown' hgrow hbel)
    go_ret
    exact ⟨by rw [HE.out]; rfl, ⟨s, m, _, _, _, _, HH.out, by rw [HW.out]; exact h4.turn 3 (.int .i64 (D.left - 1)) _ rfl rfl rfl rfl, hoM.out.set_ _ _⟩, hbw4.setCell hle _, hkp.set_ h4.self _⟩
  · have hwr : D.wrote i t = D.put i t := by unfold Dk.wrote; rw [if_neg h0, if_neg hp0]
    have HW := Lib.hid hwr
    have hq2 : decide (0 < D.left) = false := by simpa using hp0
    clear hwr
    go_enter Tryz.func63, Tryz.ntmps63
    go_wp2_with fail
    refine Calls.mono hat ?_
    rintro e w0 ⟨rfl, rfl⟩
    go_wp2_with fail
    refine Calls.mono htk ?_
    rintro e w0 ⟨v2, rfl, rfl⟩
    go_wp2_with (at_builtin; refine wpList_app1 rfl (.tmp 25) (.tmp 29) 103 rfl eiPen Tryz.underlying103 rfl (by decide) rfl hown rfl (by simp) rfl (by simp [Value.oneCell']) hn1 hn2 hB1 ?_; intro v' w2 hown' hgrow hbel _ _
                 obtain ⟨A', c', rfl⟩ := own_form hown'
                 obtain ⟨k2, m2, k31, w4, hrun, h4, hbw4, k43, k44, m43, m44, hkp, hoM⟩ := hfacts A' c' w2 hown' hgrow hbel)
    go_ret
    exact ⟨by rw [HE.out]; rfl, ⟨s, m, _, _, _, _, HH.out, by rw [HW.out]; exact h4, hoM.out⟩, hbw4, hkp⟩
theorem write_ok {w : World} {B d k : Nat} {D : Dk} (h : DkAt w B d k D) (i : Int) (t : Bs) (hi : D.at_ i = 0) (ht : t.length = 256) (hk : k < maxLen) (hw : (Lit.int .i64 i).wf = true) (hr : 0 ≤ D.writes ∧ D.writes < 4611686018427387904) (hl : D.left ≤ 9223372036854775807) (hp : D.pend.length ≤ 1000000) (hB : B ≤ w.heap.size) :
    Calls Tryz.prog 63 #[.pointer (some ⟨d, 0, none⟩), .int .i64 i, str t] w fun e w' => e = .returned (.int .i64 D.wroteE) ∧ DkAt w' B d (k + 1) (D.wrote i t) ∧ Below B w w' ∧ Kept w w' := by
  refine (write_ok2 h i t hi ht hk hw hr hl hp hB).mono ?_
  rintro e w' ⟨h1, ⟨s, m, pv, Dm, pv', Dm', _, h2, _⟩, h3, h4⟩
  exact ⟨h1, ⟨s, m, pv', Dm', h2⟩, h3, h4⟩
set_option maxRecDepth 100000 in
theorem write_bad {w : World} {B d k : Nat} {D : Dk} (h : DkAt w B d k D) (i : Int) (t : Bs) (hi : D.at_ i ≠ 0) :
    Calls Tryz.prog 63 #[.pointer (some ⟨d, 0, none⟩), .int .i64 i, str t] w fun e w' => e = .returned (.int .i64 (D.at_ i)) ∧ w' = w := by
  have hat := at_any h i
  generalize D.at_ i = x at *
  have hx : (x != 0) = true := by simpa using hi
  unfold str
  clear h
  go_enter Tryz.func63, Tryz.ntmps63
  go_wp2_with fail
  refine Calls.mono hat ?_
  rintro e w1 ⟨rfl, rfl⟩
  go_wp2
  go_ret
  exact ⟨rfl, rfl⟩
end Go.Proofs.YtpfplojkiloldaaGreatDoor
namespace Cc
def hv : List Nat := [0, 498536548, 997073096, 651767980, 1994146192, 1802195444, 1303535960, 1342533948, 3988292384, 4027552580, 3604390888, 3412177804, 2607071920, 2262029012, 2685067896, 3183342108]
theorem hv_lt (i : Nat) : hv.getD i 0 < 4294967296 := by
  by_cases h : i < 16
  · have h2 : ∀ j : Fin 16, hv.getD j 0 < 4294967296 := by decide
    exact h2 ⟨i, h⟩
  · have : hv.length ≤ i := by show 16 ≤ i; omega
    rw [List.getD, List.getElem?_eq_none this]; decide
def half (n : Nat) : Nat := n / 16 ^^^ hv.getD (n % 16) 0
theorem half_lt {n : Nat} (h : n < 4294967296) : half n < 4294967296 := Nat.xor_lt_two_pow (n := 32) (by omega) (hv_lt _)
def step (c b : Nat) : Nat := half (half (c ^^^ b))
theorem xor_lt {c b : Nat} (hc : c < 4294967296) (hb : b < 256) : c ^^^ b < 4294967296 := Nat.xor_lt_two_pow (n := 32) hc (by omega)
theorem step_lt {c b : Nat} (hc : c < 4294967296) (hb : b < 256) : step c b < 4294967296 := half_lt (half_lt (xor_lt hc hb))
def run (c : Nat) (l : List UInt8) : Nat := l.foldl (fun c b => step c b.toNat) c
theorem run_lt (l : List UInt8) : ∀ {c : Nat}, c < 4294967296 → run c l < 4294967296 := by
  induction l with
  | nil => intro c h; exact h
  | cons b l ih => intro c h; exact ih (step_lt h b.toNat_lt)
theorem run_append (c : Nat) (a b : List UInt8) : run c (a ++ b) = run (run c a) b := by unfold run; rw [List.foldl_append]
def sum (l : List UInt8) : Nat := run 4294967295 l ^^^ 4294967295
theorem sum_lt (l : List UInt8) : sum l < 4294967296 := Nat.xor_lt_two_pow (n := 32) (run_lt l (by decide)) (by decide)
end Cc
namespace Go.Proofs.YtpfplojkiloldaaGreatDoor
open Go.RowKit
/-- the table lies where it lay -/
def HT (w : World) : Prop := 0 < w.heap.size ∧ ∀ i, i < 16 → w.cell? ⟨0, i, none⟩ = some (.int .u32 ((Cc.hv.getD i 0 : Nat) : Int))
theorem HT.below {w w' : World} {B : Nat} (h : HT w) (hb : Below B w w') (hB : 0 < B) : HT w' := by
  refine ⟨by have := hb.size; have := h.1; omega, fun i hi => ?_⟩
  rw [hb.cell (p := ⟨0, i, none⟩) hB]; exact h.2 i hi
theorem and15 (n : Nat) (h : n < 4294967296) : bits .and .u32 (n : Int) 15 = ((n % 16 : Nat) : Int) := by
  have e := u32_and_nat n 15 h (by decide)
  rw [show (15 : Nat) = 2 ^ 4 - 1 from rfl, Nat.and_two_pow_sub_one_eq_mod] at e
  exact e
theorem half_bits (n : Nat) (h : n < 4294967296) : bits .xor .u32 ((n : Int) / 16) ((Cc.hv.getD (n % 16) 0 : Nat) : Int) = ((Cc.half n : Nat) : Int) :=
  u32_xor_nat (n / 16) (Cc.hv.getD (n % 16) 0) (by omega) (Cc.hv_lt _)
set_option maxRecDepth 100000 in
set_option maxHeartbeats 1000000 in
theorem step_any (c b : Nat) (hc : c < 4294967296) (hb : b < 256) (w : World) (h : HT w) :
    Calls Tryz.prog 138 #[.int .i64 c, .int .u8 b] w fun e w' => e = .returned (.int .i64 (Cc.step c b)) ∧ w' = w := by
  have e1 : IntKind.u32.wrap (c : Int) = c := IntWalk.u32_in _ (by omega)
  have e2 : IntKind.u32.wrap (b : Int) = b := IntWalk.u32_in _ (by omega)
  have e3 := u32_xor_nat c b hc (by omega)
  have h1 := Cc.xor_lt hc hb
  have g1 := h.2 ((c ^^^ b) % 16) (by omega)
  have h2 := Cc.half_lt h1
  have g2 := h.2 (Cc.half (c ^^^ b) % 16) (by omega)
  have e4 := and15 _ h1
  have e5 := and15 _ h2
  have e6 := half_bits _ h1
  have e7 := half_bits _ h2
  have h3 := Cc.half_lt h2
  unfold Cc.step
  generalize Cc.half (Cc.half (c ^^^ b)) = z at *
  generalize Cc.half (c ^^^ b) = y at *
  generalize c ^^^ b = x at *
  generalize Cc.hv.getD (x % 16) 0 = p at *
  generalize Cc.hv.getD (y % 16) 0 = q at *
  go_enter Tryz.func138, Tryz.ntmps138
  go_wp2
  go_ret
  exact ⟨rfl, rfl⟩
theorem run_take_succ (c : Nat) (l : List UInt8) (j : Nat) (hj : j < l.length) : Cc.run c (l.take (j + 1)) = Cc.step (Cc.run c (l.take j)) l[j].toNat := by
  rw [List.take_succ_eq_append_getElem hj, Cc.run_append]; rfl
theorem sum_bits (l : List UInt8) : bits .xor .i64 ((Cc.run 4294967295 l : Nat) : Int) 4294967295 = ((Cc.sum l : Nat) : Int) :=
  i64_xor_nat (Cc.run 4294967295 l) 4294967295 (by have := Cc.run_lt l (c := 4294967295) (by decide); omega) (by decide)
set_option maxRecDepth 100000 in
set_option maxHeartbeats 1000000 in
theorem sum_any (g c : Nat) (l : List UInt8) (hl : l.length ≤ 1000000) (w : World) (hT : HT w) (hg : w.cell? ⟨g, 0, none⟩ = some (.string ⟨l.toArray⟩)) :
    Calls Tryz.prog 98 #[.slice (some ⟨g, 0, none⟩) 1 c] w fun e w' => e = .returned (.int .i64 (Cc.sum l)) ∧ w.grownBy w' none := by
  have hsum := sum_bits l
  obtain ⟨R, hR⟩ : ∃ R, R = Cc.sum l := ⟨_, rfl⟩
  rw [← hR] at hsum ⊢
  clear hR
  go_enter Tryz.func98, Tryz.ntmps98
  go_wp2
  go_loopw [3, 10] (fun v i wr => (i = .int .i64 0 ∧ v = .int .i64 4294967295 ∧ wr = w) ∨ (i = .int .i64 1 ∧ v = .int .i64 (Cc.run 4294967295 l : Nat) ∧ w.grownBy wr none)) (fun _ i _ => 1 - (intOf i).toNat)
  case atStart => exact .inl ⟨rfl, rfl, rfl⟩
  case round =>
    rcases hrel with ⟨rfl, rfl, rfl⟩ | ⟨rfl, rfl, hgr⟩
    · obtain ⟨cap, w2, hrun, hg2, hcells⟩ := bytes_of_str (P := Tryz.prog) wr l Tryz.underlying9 Tryz.underlying156 Tryz.underlying5
      have hT2 : HT w2 := hT.below (below_of_none hg2 (Nat.le_refl _)) hT.1
      go_wp2
      go_loop [3, 17] (fun v i => ∃ j : Nat, j ≤ l.length ∧ i = .int .i64 j ∧ v = .int .i64 (Cc.run 4294967295 (l.take j) : Nat)) (fun _ i => l.length - (intOf i).toNat)
      case atStart => exact ⟨0, by omega, rfl, rfl⟩
      case round =>
        obtain ⟨j, hj, rfl, rfl⟩ := hrel
        by_cases hlt : j < l.length
        · have hc := hcells j hlt
          have hnx := Lib.hid (run_take_succ 4294967295 l j hlt)
          have hrl := Cc.run_lt (l.take j) (c := 4294967295) (by decide)
          have hb8 := l[j].toNat_lt
          have hst := fun W h => step_any (Cc.run 4294967295 (l.take j)) l[j].toNat hrl hb8 W h
          clear hcells
          go_wp2_with (go_at_call 138; refine (hst _ hT2).mono ?_; rintro e w3 ⟨rfl, rfl⟩)
          exact ⟨⟨j + 1, by omega, by go_num, by rw [hnx.out]⟩, by simp [intOf]; omega⟩
        · obtain rfl : j = l.length := by omega
          rw [List.take_of_length_le (Nat.le_refl _)]
          clear hcells
          go_wp2
          exact ⟨.inr ⟨rfl, rfl, hg2⟩, by simp [intOf]⟩
    · go_wp2
      go_ret
      exact ⟨rfl, hgr⟩
end Go.Proofs.YtpfplojkiloldaaGreatDoor
namespace Pg
open Cp
def rest (id kind : Nat) (b : List UInt8) : List UInt8 := be 4 id ++ (be 1 kind ++ (be 1 0 ++ (be 2 b.length ++ ([0, 0, 0, 0] ++ (b ++ List.replicate (240 - b.length) 0)))))
theorem rest_length (id kind : Nat) (b : List UInt8) (h : b.length ≤ 240) : (rest id kind b).length = 252 := by
  unfold rest
  simp only [List.length_append, be_length, List.length_cons, List.length_nil, List.length_replicate]
  omega
def page (id kind : Nat) (b : List UInt8) : List UInt8 := be 4 (Cc.sum (rest id kind b)) ++ rest id kind b
theorem page_length (id kind : Nat) (b : List UInt8) (h : b.length ≤ 240) : (page id kind b).length = 256 := by
  unfold page; rw [List.length_append, be_length, rest_length id kind b h]
end Pg
namespace Go.Proofs.YtpfplojkiloldaaGreatDoor
open Go.RowKit
theorem be_cons (k n : Nat) : Cp.be (k + 1) n = UInt8.ofNat (n / 256 ^ k % 256) :: Cp.be k n := by
  induction k generalizing n with
  | zero => simp [Cp.be]
  | succ k ih =>
    have e : Cp.be (k + 1) n = Cp.be k (n / 256) ++ [UInt8.ofNat (n % 256)] := rfl
    rw [Cp.be, ih (n / 256), List.cons_append, ← e, Nat.div_div_eq_div_mul, Nat.pow_succ, Nat.mul_comm (256 ^ k)]
theorem str_append (a b : List UInt8) : (⟨a.toArray⟩ : ByteArray) ++ ⟨b.toArray⟩ = ⟨(a ++ b).toArray⟩ := by
  apply ByteArray.ext; simp
theorem idx_step (l : List UInt8) (j : Nat) (hj : j < l.length) (a : Nat) (ha : a ≤ 16777215) : Value.int .i64 (wrap64 ((a : Int) * 256 + wrap64 ((ByteArray.mk l.toArray)[j]'(show j < l.toArray.size by simpa using hj)).toNat)) = Value.int .i64 ((a * 256 + l[j].toNat : Nat) : Int) := by
  have e : (ByteArray.mk l.toArray)[j]'(show j < l.toArray.size by simpa using hj) = l[j] := rfl
  have h8 := l[j].toNat_lt
  rw [e, IntWalk.wrap64_in (l[j].toNat : Int) ⟨by omega, by omega⟩, IntWalk.wrap64_in _ ⟨by omega, by omega⟩]
  go_num
end Go.Proofs.YtpfplojkiloldaaGreatDoor
namespace Go.Proofs.YtpfplojkiloldaaGreatDoor
open Go.RowKit
theorem putS_len (k : Nat) (n : Int) : (Cp.putS k n).length ≤ k := by
  unfold Cp.putS; split <;> simp [Cp.be_length]
theorem put4_ex (n : Int) (w : World) : Calls Tryz.prog 59 #[.int .i64 4, .int .i64 n] w fun e w' => (∃ (S : List UInt8) (E : Int), e = .returned (.tuple #[.string ⟨S.toArray⟩, .int .i64 E]) ∧ S.length ≤ 4 ∧ Hid (S = Cp.putS 4 n ∧ E = Cp.putE 4 n)) ∧ Below w.heap.size w w' :=
  (put4_any n w).mono fun _ _ ⟨he, hb⟩ => ⟨⟨_, _, he, putS_len 4 n, ⟨rfl, rfl⟩⟩, hb⟩
theorem put2_ex (n : Int) (w : World) : Calls Tryz.prog 59 #[.int .i64 2, .int .i64 n] w fun e w' => (∃ (S : List UInt8) (E : Int), e = .returned (.tuple #[.string ⟨S.toArray⟩, .int .i64 E]) ∧ S.length ≤ 2 ∧ Hid (S = Cp.putS 2 n ∧ E = Cp.putE 2 n)) ∧ Below w.heap.size w w' :=
  (put2_any n w).mono fun _ _ ⟨he, hb⟩ => ⟨⟨_, _, he, putS_len 2 n, ⟨rfl, rfl⟩⟩, hb⟩
/-- the text and the error of Body's loop -/
def bS (next : Int) (l : List Run) (k : Nat) : List UInt8 := Cp.putS 4 next ++ Cp.putS 2 l.length ++ (l.take k).flatMap (fun r => Cp.putS 4 r.1 ++ Cp.putS 4 r.2)
def bE (next : Int) (l : List Run) (k : Nat) : Int := if Cp.fits 4 next && (l.take k).all Cp.okRun then 0 else 1
theorem bS_succ (next : Int) (l : List Run) (k : Nat) (hk : k < l.length) : bS next l (k + 1) = bS next l k ++ (Cp.putS 4 l[k].1 ++ Cp.putS 4 l[k].2) := by
  unfold bS; rw [List.take_succ_eq_append_getElem hk, List.flatMap_append]; simp
theorem bE_succ (next : Int) (l : List Run) (k : Nat) (hk : k < l.length) : bE next l (k + 1) = if Cp.okRun l[k] then bE next l k else 1 := by
  unfold bE; rw [List.take_succ_eq_append_getElem hk, List.all_append]
  rw [show [l[k]].all Cp.okRun = Cp.okRun l[k] by simp, ← Bool.and_assoc]
  generalize (Cp.fits 4 next && (l.take k).all Cp.okRun) = x
  generalize Cp.okRun l[k] = y
  cases x <;> cases y <;> rfl
theorem bS_len (next : Int) (l : List Run) (k : Nat) : (bS next l k).length ≤ 6 + 8 * k := by
  induction k with
  | zero => unfold bS; have := putS_len 4 next; have := putS_len 2 l.length; simp; omega
  | succ k ih =>
    by_cases hk : k < l.length
    · rw [bS_succ next l k hk]; have := putS_len 4 l[k].1; have := putS_len 4 l[k].2; simp; omega
    · have e : bS next l (k + 1) = bS next l k := by unfold bS; rw [List.take_of_length_le (by omega), List.take_of_length_le (by omega)]
      rw [e]; omega
theorem flat_putS (l : List Run) (h : l.all Cp.okRun = true) : l.flatMap (fun r => Cp.putS 4 r.1 ++ Cp.putS 4 r.2) = l.flatMap Cp.runBytes := by
  induction l with
  | nil => rfl
  | cons r l ih =>
    rw [List.all_cons, Bool.and_eq_true] at h
    rw [List.flatMap_cons, List.flatMap_cons, ih h.2]
    have h1 := h.1
    unfold Cp.okRun at h1
    rw [Bool.and_eq_true, Bool.and_eq_true] at h1
    rw [Cp.putS, if_pos h1.1.1, Cp.putS, if_pos h1.1.2]
    rfl
theorem body_of (next : Int) (l : List Run) (hl : l.length ≤ 29) : (bE next l l.length = 0 ∧ Cp.body next l = some (bS next l l.length)) ∨ (bE next l l.length = 1 ∧ Cp.body next l = none) := by
  unfold bE Cp.body bS
  rw [List.take_of_length_le (Nat.le_refl _)]
  have h29 : decide (l.length ≤ 29) = true := by simpa using hl
  rw [h29, Bool.and_true]
  have hf : Cp.fits 2 (l.length : Int) = true := by unfold Cp.fits; simp; omega
  by_cases h : (Cp.fits 4 next && l.all Cp.okRun) = true
  · rw [if_pos h, if_pos h]
    rw [Bool.and_eq_true] at h
    refine .inl ⟨rfl, ?_⟩
    rw [Cp.putS, if_pos h.1, Cp.putS, if_pos hf, flat_putS l h.2]
    simp
  · rw [if_neg h, if_neg h]
    exact .inr ⟨rfl, rfl⟩
/-- what Body answers, as two values -/
def bodyV (o : Option (List UInt8)) : Value := match o with
  | some s => .tuple #[.string ⟨s.toArray⟩, .int .i64 0]
  | none => .tuple #[.string ⟨#[]⟩, .int .i64 1]
end Go.Proofs.YtpfplojkiloldaaGreatDoor
