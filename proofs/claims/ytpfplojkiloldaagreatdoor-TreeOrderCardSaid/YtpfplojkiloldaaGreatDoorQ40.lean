/- The walk of cowtree's each. The walk of cowtree's Scan. The walks of cowtree's New, Root, Err. The walk of cowtree's Next. The laws' tree: New of nothing. The walk of the tree's law's over. A tree's pages in memory, as Walk gives them. The walk of cowtree's walk (its start). -/
import Derived.Test.YtpfplojkiloldaaGreatDoorQ28
import Derived.Test.YtpfplojkiloldaaGreatDoorQ39
namespace Go.Proofs.YtpfplojkiloldaaGreatDoor
open Go.RowKit Go.Shelf
structure EntFn (S : Nat → Prop) (B t u : Nat) (TM : Nat → Tp.Pst → World → Prop) (root : Int) (yf : FuncId) (caps : Array Value) {Q : Type} (y : Q → Ent → Q × Bool) (P : Nat → Q → (Nat → Prop) → World → Prop) : Prop where
  keep : ∀ {m q Y w w'}, P m q Y w → Fr S w w' → P m q Y w'
  less : ∀ {m m' q Y w}, P m' q Y w → m ≤ m' → P m q Y w
  lt : ∀ {m q Y w k}, P m q Y w → Y k → k < w.heap.size
  call : ∀ w (x : Ent) m q Y r σ, P (m + 1) q Y w → On S B t u TM root 0 r σ w → Calls Tryz.prog yf (#[.agg #[.string x.1, .string x.2]] ++ caps) w fun e w' => e = .returned (.bool (y q x).2) ∧ On S B t u TM root 0 r σ w' ∧ Fr Y w w' ∧ ∃ Y', P m (y q x).1 Y' w' ∧ ∀ k, Y' k → Y k ∨ w.heap.size ≤ k
  enters : ∀ (args : Array Value) (w : World), (callFunc yf args).run Tryz.prog w = .ok (.enter yf args) w
theorem ystep_at {Q : Type} {y : Q → Ent → Q × Bool} {l : List Ent} {j : Nat} (hj : j < l.length) (q : Q) : Tp.ystep y q (l.drop j) = if (y q l[j]).2 then Tp.ystep y (y q l[j]).1 (l.drop (j + 1)) else ((y q l[j]).1, false) := by
  rw [List.drop_eq_getElem_cons hj, Tp.ystep]
section
variable {S : Nat → Prop} {B t : Nat} {room : Int} {disk : Tp.Disk} {TM : Nat → Tp.Pst → World → Prop}
set_option maxRecDepth 100000 in
set_option maxHeartbeats 2000000 in
theorem each_do (M : Mach S B t room disk TM) (u : Nat) (root : Int) {yf : FuncId} {caps : Array Value} {Q : Type} {y : Q → Ent → Q × Bool} {P : Nat → Q → (Nat → Prop) → World → Prop} (V : EntFn S B t u TM root yf caps y P) {ge : Nat} (hge : B ≤ ge) :
    VisFn S B t u TM root 78 #[.pointer (some ⟨ge, 0, none⟩)] (Tp.ystep y) (fun m q Y w => P m q Y w ∧ Blk w ge 88 #[.func (.func yf) #[] caps] ∧ ¬ Y ge) where
  keep := fun h hf => ⟨V.keep h.1 hf, hf.blk h.2.1 (M.far hge), h.2.2⟩
  less := fun h hm => ⟨V.less h.1 hm, h.2⟩
  lt := fun h a => V.lt h.1 a
  enters := fun args w => by kernel_rfl
  call := fun w A c l n m q Y r σ hP hon hls hAY hn hl => by
    subst hn
    have HM := Lib.hid M
    have HV := Lib.hid V
    have HLS := Lib.hid hls
    have HAY := Lib.hid hAY
    have HP := Lib.hid hP
    have HON := Lib.hid hon
    have hgl := hP.2.1.lt
    clear hP hon hls hAY M V
    show Calls Tryz.prog 78 #[.slice A l.length c, .pointer (some ⟨ge, 0, none⟩)] w _
    go_enter Tryz.func78, Tryz.ntmps78
    go_wp2
    go_loopg [8] l.length (fun g s8 wr => ∃ (j : Nat) (qj : Q) (Yj : Nat → Prop), s8 = .int .i64 (j : Nat) ∧ j ≤ l.length ∧ l.length - j ≤ g ∧ Hid (Tp.ystep y qj (l.drop j) = Tp.ystep y q l) ∧ Hid (P (m + (l.length - j)) qj Yj wr ∧ Blk wr ge 88 #[.func (.func yf) #[] caps] ∧ ¬ Yj ge) ∧ Hid (∀ k, Yj k → Y k ∨ w.heap.size ≤ k) ∧ Hid (On S B t u TM root 0 r σ wr) ∧ Hid (Fr Y w wr) ∧ Hid (∀ b off, A = some ⟨b, off, none⟩ → b < w.heap.size → wr.heap[b]? = w.heap[b]?))
    case atStart => exact ⟨0, q, Y, rfl, Nat.zero_le _, by omega, Lib.hid rfl, Lib.hid HP.out, Lib.hid (fun k a => .inl a), HON, Lib.hid (Fr.refl _), Lib.hid (fun _ _ _ _ => rfl)⟩
    case round =>
      obtain ⟨j, qj, Yj, rfl, hjL, hjg, HGJ, HPJ, HYJ, HONJ, HFJ, HBJ⟩ := hrel
      have hwz := HFJ.out.size
      by_cases hj : j < l.length
      · obtain ⟨bb, oo, rfl, hbb, k1, k2⟩ := HLS.out.ent hj
        have hcell : ∀ o, wr.cell? ⟨bb, o, none⟩ = w.cell? ⟨bb, o, none⟩ := fun o => by
          unfold World.cell?
          rw [HBJ.out bb oo rfl hbb]
        rw [← hcell] at k1 k2
        have hbl : bb < wr.heap.size := by omega
        have hst := HGJ.out
        rw [ystep_at hj] at hst
        have hbx := (Below.refl wr.heap.size wr).alloc (Nat.le_refl _) (.cells #[.string l[j].1, .string l[j].2] 38)
        have hP5 := HV.out.less (m := m + (l.length - (j + 1)) + 1) (HV.out.keep HPJ.out.1 (Fr.of_below hbx)) (by omega)
        have hB5 := HPJ.out.2.1.below hbx HPJ.out.2.1.lt
        have HCALL := Lib.hid (HV.out.call _ l[j] (m + (l.length - (j + 1))) qj Yj r σ hP5 (HONJ.out.below HM.out hbx))
        have gfn := hB5.cell 0
        have hgl5 := hB5.lt
        have HBX := Lib.hid hbx
        have HB5 := Lib.hid hB5
        have hwj : IntKind.i64.wrap ((j : Int) + 1) = (j : Int) + 1 := IntWalk.i64_in _ (by omega)
        have hjLi : (j : Int) < l.length := by omega
        have HST := Lib.hid hst
        clear hst hP5 hB5 hbx hcell
        generalize l[j] = x at *
        go_wp2_with fail
        rw [HV.out.enters, Oper.upon_enter]
        refine Calls.mono HCALL.out ?_
        rintro e w4 ⟨rfl, hon4, hf4, Y4, hP4, hY4⟩
        have hF4 : Fr Y w w4 := (HFJ.out.trans (.of_below HBX.out)).go hf4 HYJ.out
        have hz5 := HBX.out.size
        have hY4' : ∀ k, Y4 k → Y k ∨ w.heap.size ≤ k := fun k a => by
          rcases hY4 k a with a | a
          · exact HYJ.out k a
          · exact .inr (by omega)
        have hge4 : ¬ Y4 ge := fun a => by
          rcases hY4 ge a with a | a
          · exact HPJ.out.2.2 a
          · have := HPJ.out.2.1.lt; omega
        have HP4 := Lib.hid (show P (m + (l.length - (j + 1))) (y qj x).1 Y4 w4 ∧ Blk w4 ge 88 #[.func (.func yf) #[] caps] ∧ ¬ Y4 ge from ⟨hP4, hf4.blk HB5.out HPJ.out.2.2, hge4⟩)
        have HY4 := Lib.hid hY4'
        have HON4 := Lib.hid hon4
        have HF4 := Lib.hid hF4
        have HB4 := Lib.hid (show ∀ b off, (some ⟨bb, oo, none⟩ : Option Addr) = some ⟨b, off, none⟩ → b < w.heap.size → w4.heap[b]? = w.heap[b]? from fun b off e hb => by
          have hny : ¬ Y b := HAY.out ⟨b, off, none⟩ e
          exact hF4.block b hb hny)
        clear hon4 hf4 hP4 hY4 hF4 hY4' hge4
        obtain ⟨qb, hqb⟩ : ∃ z, z = y qj x := ⟨_, rfl⟩
        rw [← hqb] at HST HP4 ⊢
        clear hqb
        obtain ⟨q1, b1⟩ := qb
        simp only at HST HP4 ⊢
        cases b1 with
        | true =>
          have HST2 := Lib.hid (show Tp.ystep y q1 (l.drop (j + 1)) = Tp.ystep y q l by have := HST.out; simpa using this)
          clear HST
          go_wp2
          go_roundg (l.length - (j + 1))
          case measure => omega
          case rel => exact ⟨j + 1, q1, Y4, by go_num, by omega, Nat.le_refl _, HST2, HP4, HY4, HON4, HF4, HB4⟩
        | false =>
          have HE := Lib.hid (show Tp.ystep y q l = (q1, false) by have := HST.out; simpa using this.symm)
          clear HST
          have HEND := Lib.hid (show On S B t u TM root 0 r σ w4 ∧ Fr Y w w4 ∧ ∃ Y', (P m q1 Y' w4 ∧ Blk w4 ge 88 #[.func (.func yf) #[] caps] ∧ ¬ Y' ge) ∧ ∀ k, Y' k → Y k ∨ w.heap.size ≤ k from ⟨HON4.out, HF4.out, Y4, ⟨HV.out.less HP4.out.1 (Nat.le_add_right _ _), HP4.out.2⟩, HY4.out⟩)
          go_wp2
          go_ret
          rw [HE.out]
          exact ⟨rfl, HEND.out⟩
      · have hjLi : ¬ (j : Int) < l.length := by omega
        obtain rfl : j = l.length := by omega
        have hend := HGJ.out
        rw [List.drop_eq_nil_of_le (Nat.le_refl _), Tp.ystep] at hend
        have HE := Lib.hid hend
        have HEND := Lib.hid (show On S B t u TM root 0 r σ wr ∧ Fr Y w wr ∧ ∃ Y', (P m qj Y' wr ∧ Blk wr ge 88 #[.func (.func yf) #[] caps] ∧ ¬ Y' ge) ∧ ∀ k, Y' k → Y k ∨ w.heap.size ≤ k from ⟨HONJ.out, HFJ.out, Yj, ⟨HV.out.less HPJ.out.1 (Nat.le_add_right _ _), HPJ.out.2⟩, HYJ.out⟩)
        clear hend
        go_wp2
        go_ret
        rw [← HE.out]
        exact ⟨rfl, HEND.out⟩
def EaEnd (S : Nat → Prop) (B t u : Nat) (TM : Nat → Tp.Pst → World → Prop) (root : Int) (r : Nat) (σ : Tp.Pst) {Q : Type} (P : Nat → Q → (Nat → Prop) → World → Prop) (m : Nat) (q : Q) (Y : Nat → Prop) (w : World) (e : Ending) (w' : World) : Prop :=
  e = .returned (.int .i64 0) ∧ On S B t u TM root 0 r σ w' ∧ Fr (fun k => S k ∨ Y k) w w' ∧ ∃ Y', P m q Y' w' ∧ ∀ k, Y' k → Y k ∨ w.heap.size ≤ k
set_option maxRecDepth 100000 in
set_option maxHeartbeats 2000000 in
theorem each_any (M : Mach S B t room disk TM) (u : Nat) (root : Int) {yf : FuncId} {caps : Array Value} {Q : Type} {y : Q → Ent → Q × Bool} {P : Nat → Q → (Nat → Prop) → World → Prop} (V : EntFn S B t u TM root yf caps y P) (frm : ByteArray) (σ : Tp.Pst) (m : Nat) (q q' : Q) (b : Bool) (Y : Nat → Prop) (r : Nat) (w : World) (h0 : root = 0 → q' = q) (h1 : root ≠ 0 → Tp.pVisit disk σ frm (Tp.ystep y) 24 root q = (q', .ok b)) (hP : P (m + Tp.cost Tp.en disk σ 24 root) q Y w) (h : On S B t u TM root 0 (r + Tp.cost Tp.rd disk σ 24 root) σ w) :
    Calls Tryz.prog 44 #[.pointer (some ⟨u, 0, none⟩), .string frm, .func (.func yf) #[] caps] w (EaEnd S B t u TM root r σ P m q' Y w) := by
  have hsz := M.size h.tm
  have hb1 := (Below.refl w.heap.size w).alloc (Nat.le_refl _) (.cells #[.func (.func yf) #[] caps] 88)
  have hon := h.below M hb1
  have t1 : (w.alloc (.cells #[.func (.func yf) #[] caps] 88)).cell? ⟨u, 1, none⟩ = some (.int .i64 root) := hon.self.cell 1
  have t2 : (w.alloc (.cells #[.func (.func yf) #[] caps] 88)).cell? ⟨u, 2, none⟩ = some (.int .i64 0) := hon.self.cell 2
  have lt2 := hon.self.lt
  have hun : u < w.heap.size := h.self.lt
  have hP1 := V.keep hP (Fr.of_below hb1)
  have hBg := Blk.new w 88 #[.func (.func yf) #[] caps]
  by_cases hr : root = 0
  · have hq := h0 hr
    subst hr hq
    have HEND := Lib.hid (show EaEnd S B t u TM 0 r σ P m q' Y w (.returned (.int .i64 0)) (w.alloc (.cells #[.func (.func yf) #[] caps] 88)) from ⟨rfl, hon.less M (by omega), .of_below hb1, Y, V.less hP1 (by omega), fun k a => .inl a⟩)
    clear hP1 hon hb1 h hP M V h1 h0 hBg
    go_enter Tryz.func44, Tryz.ntmps44
    go_wp2
    go_ret
    exact HEND.out
  · have hv := h1 hr
    have hny : ¬ Y w.heap.size := fun a => by have := V.lt hP a; omega
    have HCALL := Lib.hid (visit_any M u root (each_do M u root V (show B ≤ w.heap.size from hsz)) frm σ 24 0 root m q q' b Y r _ (by omega) hv ⟨hP1, hBg, hny⟩ hon)
    have hrn : (root == 0) = false := by simpa using hr
    have HF := Lib.hid hb1
    clear hP1 hon hb1 h hP M V h1 h0 hBg hv hny
    go_enter Tryz.func44, Tryz.ntmps44
    go_wp2_with fail
    refine Calls.mono HCALL.out ?_
    rintro e w2 ⟨rfl, hon2, hf2, Y2, ⟨hP2, hB2, hn2⟩, hY2⟩
    have HEND := Lib.hid (show EaEnd S B t u TM root r σ P m q' Y w (.returned (.int .i64 0)) w2 from ⟨rfl, hon2, (Fr.of_below HF.out).trans hf2, Y2, hP2, fun k a => (hY2 k a).imp_right (fun c => Nat.le_trans HF.out.size c)⟩)
    clear hon2 hf2 hP2 hB2 hn2 hY2
    go_wp2
    go_ret
    exact HEND.out
end
end Go.Proofs.YtpfplojkiloldaaGreatDoor
namespace Go.Proofs.YtpfplojkiloldaaGreatDoor
open Go.RowKit Go.Shelf
def scanS (hi_ : ByteArray) (acc : List Ent) (x : Ent) : List Ent × Bool := if hi_.toList = [] ∨ En.lt x.1 hi_ = true then (acc ++ [x], true) else (acc, false)
def ScanP (gto gl : Nat) (hi_ : ByteArray) (m : Nat) (acc : List Ent) (Y : Nat → Prop) (w : World) : Prop :=
  acc.length + m ≤ 1000000 ∧ Blk w gto 9 #[.string hi_] ∧ ∃ A c, Blk w gl 32 #[.slice A acc.length c] ∧ LO entE 38 w (gl + 1) (.slice A acc.length c) acc ∧ Y = fun k => k = gl ∨ (Value.slice A acc.length c).ownBlock = some k
section
variable {S : Nat → Prop} {B t : Nat} {room : Int} {disk : Tp.Disk} {TM : Nat → Tp.Pst → World → Prop}
set_option maxRecDepth 100000 in
set_option maxHeartbeats 2000000 in
theorem scan_do (M : Mach S B t room disk TM) (u : Nat) (root : Int) (hi_ : ByteArray) {gto gl : Nat} (hto : B ≤ gto) (hne : gto < gl) (hul : u < gto) :
    EntFn S B t u TM root 45 #[.pointer (some ⟨gto, 0, none⟩), .pointer (some ⟨gl, 0, none⟩)] (scanS hi_) (ScanP gto gl hi_) where
  keep := fun ⟨h0, h1, A, c, h2, h3, h4⟩ hf => ⟨h0, hf.blk h1 (M.far hto), A, c, hf.blk h2 (M.far (by omega)), h3.fr hf (fun k a => by have := M.low k a; omega), h4⟩
  less := fun ⟨h0, h1⟩ hm => ⟨by omega, h1⟩
  lt := fun ⟨h0, h1, A, c, h2, h3, h4⟩ hy => by
    subst h4
    rcases hy with rfl | hy
    · exact h2.lt
    · obtain ⟨cs, hcs⟩ := own_obj h3 hy
      exact (Array.getElem?_eq_some_iff.1 hcs).1
  enters := fun args w => by kernel_rfl
  call := fun w x m acc Y r σ hP hon => by
    obtain ⟨h0, h1, A, c, h2, h3, rfl⟩ := hP
    have HM := Lib.hid M
    have hbx := (Below.refl w.heap.size w).alloc (Nat.le_refl _) (.cells #[.string x.1, .string x.2] 38)
    have b1 := h1.below hbx h1.lt
    have b2 := h2.below hbx h2.lt
    have k1 : (w.alloc (.cells #[.string x.1, .string x.2] 38)).cell? ⟨gto, 0, none⟩ = some (.string hi_) := b1.cell 0
    have k2 : (w.alloc (.cells #[.string x.1, .string x.2] 38)).cell? ⟨gl, 0, none⟩ = some (.slice A acc.length c) := b2.cell 0
    have l1 := b1.lt
    have l2 := b2.lt
    have l1w := h1.lt
    have l2w := h2.lt
    have HB1 := Lib.hid b1
    have HB2 := Lib.hid b2
    have HR := Lib.hid (h3.below hbx)
    have HON := Lib.hid (hon.below M hbx)
    have HBX := Lib.hid hbx
    have H1 := Lib.hid h1
    have H2 := Lib.hid h2
    have H3 := Lib.hid h3
    have HONW := Lib.hid hon
    clear h1 h2 h3 b1 b2 hbx hon M
    unfold scanS
    show Calls Tryz.prog 45 #[.agg #[.string x.1, .string x.2], .pointer (some ⟨gto, 0, none⟩), .pointer (some ⟨gl, 0, none⟩)] w _
    by_cases hin : hi_.toList = [] ∨ En.lt x.1 hi_ = true
    · rw [if_pos hin]
      have HFIN : Hid (∀ A' c' w3, w3.ownsRow (gl + 1) 38 2 (.slice A' (acc.length + 1) c') (acc.length + 1) (entE.cells acc ++ [.string x.1, .string x.2]) → (w.alloc (.cells #[.string x.1, .string x.2] 38)).grownBy w3 (Value.slice A acc.length c).ownBlock → ((Value.slice A' (acc.length + 1) c').ownBlock = (Value.slice A acc.length c).ownBlock ∨ ∃ g, (Value.slice A' (acc.length + 1) c').ownBlock = some g ∧ (w.alloc (.cells #[.string x.1, .string x.2] 38)).heap.size ≤ g) → Below (gl + 1) (w.alloc (.cells #[.string x.1, .string x.2] 38)) w3 → On S B t u TM root 0 r σ (w3.setCell ⟨gl, 0, none⟩ (.slice A' (acc.length + 1) c')) ∧ Fr (fun k => k = gl ∨ (Value.slice A acc.length c).ownBlock = some k) w (w3.setCell ⟨gl, 0, none⟩ (.slice A' (acc.length + 1) c')) ∧ ∃ Y', ScanP gto gl hi_ m (acc ++ [x]) Y' (w3.setCell ⟨gl, 0, none⟩ (.slice A' (acc.length + 1) c')) ∧ ∀ k, Y' k → (k = gl ∨ (Value.slice A acc.length c).ownBlock = some k) ∨ w.heap.size ≤ k) := by
        refine Lib.hid fun A' c' w3 hown hg hob hbel => ?_
        have hon3 := HON.out.row HM.out HR.out (show B ≤ gl + 1 by omega) (by decide) (by decide) (by decide) (by decide) (by decide) hg
        have hB3 := HB2.out.below hbel (Nat.lt_succ_self _)
        have hT3 := HB1.out.below hbel (by omega)
        have hfs : Fr (fun k => k = gl) w3 (w3.setCell ⟨gl, 0, none⟩ (.slice A' (acc.length + 1) c')) := Fr.set_ (S := fun k => k = gl) rfl _
        have hB4 : Blk (w3.setCell ⟨gl, 0, none⟩ (.slice A' (acc.length + 1) c')) gl 32 #[.slice A' (acc.length + 1) c'] := hB3.set_ 0 _
        have hL3 : LO entE 38 w3 (gl + 1) (.slice A' (acc.length + 1) c') (acc ++ [x]) := LO.snoc rfl rfl rfl hown
        have hL4 := hL3.fr hfs (fun k a => by omega)
        have hlen : (acc ++ [x]).length = acc.length + 1 := by simp
        refine ⟨hon3.own HM.out hfs hB3 (by omega) (by omega) (by decide) (by decide) (by decide) (by decide), ((Fr.of_below HBX.out).trans ((Fr.of_grown hg).more fun k a => .inr a)).trans (hfs.more fun k a => .inl a), _, ⟨by omega, hfs.blk hT3 (by omega), A', c', by rw [hlen]; exact hB4, by rw [hlen]; exact hL4, rfl⟩, ?_⟩
        intro k hk
        rw [hlen] at hk
        rcases hk with hk | hk
        · exact .inl (.inl hk)
        · rcases hob with hob | ⟨g, hob, hge⟩
          · exact .inl (.inr (by rw [← hob]; exact hk))
          · rw [hob] at hk; injection hk with hk; subst hk; exact .inr (Nat.le_trans HBX.out.size hge)
      have hrow : (w.alloc (.cells #[.string x.1, .string x.2] 38)).ownsRow (gl + 1) 38 2 (.slice A acc.length c) acc.length (entE.cells acc) := HR.out
      have hbase : gl + 1 ≤ (w.alloc (.cells #[.string x.1, .string x.2] 38)).heap.size := l2
      by_cases he : hi_.toList = []
      · have he2 : hi_.toList.isEmpty = true := by simpa using he
        clear hin
        go_enter Tryz.func45, Tryz.ntmps45
        go_wp2_with (at_builtin; refine wpList_app1 rfl _ _ 32 rfl eiEnt Tryz.underlying32 rfl (by decide) rfl hrow rfl (by simp) rfl (by simp [Value.oneCell']) (by unfold maxLen; omega) (by omega) hbase ?_; intro v' w3 hown' hgrow hbel hob _; obtain ⟨A', c', rfl⟩ := own_form hown'; have hB3 := HB2.out.below hbel (Nat.lt_succ_self _); have k3 : w3.cell? ⟨gl, 0, none⟩ = some (.slice A acc.length c) := hB3.cell 0; have f3 := hB3.frozen 0; have l3 := hB3.lt; have HEND := Lib.hid (HFIN.out A' c' w3 hown' hgrow hob hbel); clear hB3 hown' hgrow hob hbel)
        go_ret
        exact ⟨rfl, HEND.out⟩
      · have he2 : hi_.toList.isEmpty = false := by simpa using he
        have hlt : Go.Op.bytesLess x.1.toList hi_.toList = true := by
          rcases hin with a | a
          · exact absurd a he
          · exact a
        clear hin
        go_enter Tryz.func45, Tryz.ntmps45
        go_wp2_with (at_builtin; refine wpList_app1 rfl _ _ 32 rfl eiEnt Tryz.underlying32 rfl (by decide) rfl hrow rfl (by simp) rfl (by simp [Value.oneCell']) (by unfold maxLen; omega) (by omega) hbase ?_; intro v' w3 hown' hgrow hbel hob _; obtain ⟨A', c', rfl⟩ := own_form hown'; have hB3 := HB2.out.below hbel (Nat.lt_succ_self _); have k3 : w3.cell? ⟨gl, 0, none⟩ = some (.slice A acc.length c) := hB3.cell 0; have f3 := hB3.frozen 0; have l3 := hB3.lt; have HEND := Lib.hid (HFIN.out A' c' w3 hown' hgrow hob hbel); clear hB3 hown' hgrow hob hbel)
        go_ret
        exact ⟨rfl, HEND.out⟩
    · rw [if_neg hin]
      have he : ¬ hi_.toList = [] := fun a => hin (.inl a)
      have he2 : hi_.toList.isEmpty = false := by simpa using he
      have hlt : Go.Op.bytesLess x.1.toList hi_.toList = false := by
        have : ¬ En.lt x.1 hi_ = true := fun a => hin (.inr a)
        simpa [En.lt] using this
      go_enter Tryz.func45, Tryz.ntmps45
      have HEND := Lib.hid (show On S B t u TM root 0 r σ (w.alloc (.cells #[.string x.1, .string x.2] 38)) ∧ Fr (fun k => k = gl ∨ (Value.slice A acc.length c).ownBlock = some k) w (w.alloc (.cells #[.string x.1, .string x.2] 38)) ∧ ∃ Y', ScanP gto gl hi_ m acc Y' (w.alloc (.cells #[.string x.1, .string x.2] 38)) ∧ ∀ k, Y' k → (k = gl ∨ (Value.slice A acc.length c).ownBlock = some k) ∨ w.heap.size ≤ k from ⟨HON.out, .of_below HBX.out, _, ⟨by omega, HB1.out, A, c, HB2.out, HR.out, rfl⟩, fun k a => .inl a⟩)
      clear hin
      go_wp2
      go_ret
      exact ⟨rfl, HEND.out⟩
def ScEnd (S : Nat → Prop) (B t u : Nat) (TM : Nat → Tp.Pst → World → Prop) (root : Int) (r : Nat) (σ : Tp.Pst) (l : List Ent) (w : World) (e : Ending) (w' : World) : Prop :=
  ∃ A c, e = .returned (.tuple #[.slice A l.length c, .int .i64 0]) ∧ LO entE 38 w' w.heap.size (.slice A l.length c) l ∧ On S B t u TM root 0 r σ w' ∧ Fr S w w'
set_option maxRecDepth 100000 in
set_option maxHeartbeats 2000000 in
theorem scan_any (M : Mach S B t room disk TM) (u : Nat) (root : Int) (frm hi_ : ByteArray) (σ : Tp.Pst) (l : List Ent) (b : Bool) (r : Nat) (w : World) (hN : Tp.cost Tp.en disk σ 24 root ≤ 1000000) (h0 : root = 0 → l = []) (h1 : root ≠ 0 → Tp.pVisit disk σ frm (Tp.ystep (scanS hi_)) 24 root [] = (l, .ok b)) (h : On S B t u TM root 0 (r + Tp.cost Tp.rd disk σ 24 root) σ w) :
    Calls Tryz.prog 16 #[.pointer (some ⟨u, 0, none⟩), .string frm, .string hi_] w (ScEnd S B t u TM root r σ l w) := by
  have hsz := M.size h.tm
  have hun : u < w.heap.size := h.self.lt
  have hb1 := (Below.refl w.heap.size w).alloc (Nat.le_refl _) (.cells #[.string hi_] 9)
  have hb2 := hb1.alloc hb1.size (.cells #[.slice none 0 0] 32)
  have hon := (h.below M hb1).below M (Below.alloc (Below.refl _ _) (Nat.le_refl _) (.cells #[.slice none 0 0] 32))
  have hBk := (Blk.new w 9 #[.string hi_]).alloc (.cells #[.slice none 0 0] 32)
  have hBv := Blk.new (w.alloc (.cells #[.string hi_] 9)) 32 #[.slice none 0 0]
  simp only [World.size_alloc] at hBv
  have hP : ScanP w.heap.size (w.heap.size + 1) hi_ (0 + Tp.cost Tp.en disk σ 24 root) [] (fun k => k = w.heap.size + 1 ∨ (Value.slice none 0 0).ownBlock = some k) ((w.alloc (.cells #[.string hi_] 9)).alloc (.cells #[.slice none 0 0] 32)) := ⟨by simpa using hN, hBk, none, 0, hBv, LO.nil_ _ _, rfl⟩
  have HCALL := Lib.hid (each_any M u root (scan_do M u root hi_ (show B ≤ w.heap.size from hsz) (Nat.lt_succ_self _) hun) frm σ 0 [] l b _ r _ h0 h1 hP hon)
  have k0 : ((w.alloc (.cells #[.string hi_] 9)).alloc (.cells #[.slice none 0 0] 32)).cell? ⟨w.heap.size, 0, none⟩ = some (.string hi_) := hBk.cell 0
  have kl := hBk.lt
  have v0 : ((w.alloc (.cells #[.string hi_] 9)).alloc (.cells #[.slice none 0 0] 32)).cell? ⟨w.heap.size + 1, 0, none⟩ = some (.slice none 0 0) := hBv.cell 0
  have vl := hBv.lt
  have HB := Lib.hid hb2
  have HY : Hid (∀ k, (k = w.heap.size + 1 ∨ (Value.slice none 0 0).ownBlock = some k) → w.heap.size ≤ k) := Lib.hid (fun k a => by
    rcases a with a | a
    · omega
    · simp [Value.ownBlock] at a)
  have HM := Lib.hid M
  clear hb1 hb2 hon hBk hBv hP h M h0 h1 hN
  go_enter Tryz.func16, Tryz.ntmps16
  go_wp2_with fail
  refine Calls.mono HCALL.out ?_
  rintro e w2 ⟨rfl, hon2, hf2, Y2, ⟨_, hT2, A, c, hL2, hR2, _⟩, _⟩
  have hF : Fr S w w2 := (Fr.of_below (S := S) HB.out).go hf2 (fun k a => a.imp id (HY.out k))
  have g0 : w2.cell? ⟨w.heap.size + 1, 0, none⟩ = some (.slice A l.length c) := hL2.cell 0
  have gl := hL2.lt
  have HEND := Lib.hid (show ScEnd S B t u TM root r σ l w (.returned (.tuple #[.slice A l.length c, .int .i64 0])) w2 from ⟨A, c, rfl, hR2.lower (by omega), hon2, hF⟩)
  clear hon2 hf2 hT2 hL2 hR2 hF
  go_wp2
  go_ret2
  exact HEND.out
end
end Go.Proofs.YtpfplojkiloldaaGreatDoor
namespace Go.Proofs.YtpfplojkiloldaaGreatDoor
open Go.RowKit Go.Shelf
section
variable {S : Nat → Prop} {B t : Nat} {room : Int} {disk : Tp.Disk} {TM : Nat → Tp.Pst → World → Prop}
set_option maxRecDepth 100000 in
theorem troot_any (u : Nat) (root e0 : Int) (w : World) (h : Blk w u 84 (TreeV t root e0)) :
    Calls Tryz.prog 28 #[.pointer (some ⟨u, 0, none⟩)] w fun e w' => e = .returned (.int .i64 root) ∧ w' = w := by
  have k : w.cell? ⟨u, 1, none⟩ = some (.int .i64 root) := h.cell 1
  have l := h.lt
  clear h
  go_enter Tryz.func28, Tryz.ntmps28
  go_wp2
  go_ret
  exact ⟨rfl, rfl⟩
set_option maxRecDepth 100000 in
theorem terr_any (u : Nat) (root e0 : Int) (w : World) (h : Blk w u 84 (TreeV t root e0)) :
    Calls Tryz.prog 26 #[.pointer (some ⟨u, 0, none⟩)] w fun e w' => e = .returned (.int .i64 e0) ∧ w' = w := by
  have k : w.cell? ⟨u, 2, none⟩ = some (.int .i64 e0) := h.cell 2
  have l := h.lt
  clear h
  go_enter Tryz.func26, Tryz.ntmps26
  go_wp2
  go_ret
  exact ⟨rfl, rfl⟩
set_option maxRecDepth 100000 in
theorem ctnew_any (M : Mach S B t room disk TM) (root : Int) (r : Nat) (σ : Tp.Pst) (w : World) (h : TM r σ w) :
    Calls Tryz.prog 33 #[.pointer (some ⟨t, 0, none⟩), .int .i64 root] w fun e w' => ∃ u, e = .returned (.pointer (some ⟨u, 0, none⟩)) ∧ On S B t u TM root 0 r σ w' ∧ w.heap.size ≤ u ∧ Below w.heap.size w w' := by
  have HFIN : Hid (∀ u w', Below w.heap.size w w' → Blk w' u 84 (TreeV t root 0) → w.heap.size ≤ u → On S B t u TM root 0 r σ w') := Lib.hid fun u w' hb hB hu => ⟨M.below h hb, hB, Nat.le_trans (M.size h) hu⟩
  have hbA := Lib.hid ((Below.refl w.heap.size w).alloc (Nat.le_refl _) (.cells #[.pointer (some ⟨t, 0, none⟩), .int .i64 root, .int .i64 0] 84))
  clear M h
  go_enter Tryz.func33, Tryz.ntmps33
  go_wp2
  go_ret
  exact ⟨_, rfl, HFIN.out _ _ hbA.out (Blk.new w _ _) (Nat.le_refl _), Nat.le_refl _, hbA.out⟩
end
end Go.Proofs.YtpfplojkiloldaaGreatDoor
namespace Go.Proofs.YtpfplojkiloldaaGreatDoor
open Go.RowKit Go.Shelf
def nextS (_ : Ent × Bool) (x : Ent) : (Ent × Bool) × Bool := ((x, true), false)
def NextP (gf gk : Nat) (_ : Nat) (q : Ent × Bool) (Y : Nat → Prop) (w : World) : Prop :=
  Blk w gf 38 #[.string q.1.1, .string q.1.2] ∧ Blk w gk 4 #[.bool q.2] ∧ Y = fun k => k = gf ∨ k = gk
theorem ent_struct : StructT 38 2 := ⟨_, Tryz.underlying38, by kernel_rfl⟩
section
variable {a : Act} {o : Oper} {x y : Operand} {w : World} {R : Value → World → Prop}
theorem does_store_ent {g : Nat} {s1 s2 : ByteArray} {d0 d1 : Value} (ho : o.op = .store 38 x y) (hx : a.eval x = .pointer (some ⟨g, 0, none⟩)) (hy : a.eval y = .agg #[.string s1, .string s2]) (hB : Blk w g 38 #[d0, d1]) (hR : ∀ w', Blk w' g 38 #[.string s1, .string s2] → Fr (fun k => k = g) w w' → R undef w') : Does o a w R := by
  have key : ∃ w', (execOp a.eval o).run Tryz.prog w = .ok .skip w' ∧ Blk w' g 38 #[.string s1, .string s2] ∧ Fr (fun k => k = g) w w' := by
    have k0 := hB.cell 0
    have k1 := hB.cell 1
    have f0 := hB.frozen 0
    have f1 := hB.frozen 1
    refine ⟨_, ?_, hB.put2 (.string s1) (.string s2), Fr.put2 _ _⟩
    unfold execOp
    simp only [ho, hx, hy]
    simp [go_sem, k0, k1, f0, f1]
  obtain ⟨w', hr, h1, h2⟩ := key
  exact Does.skip hr (hR w' h1 h2)
end
section
variable {fn : Func} {p u v : Tmp} {ty : TypeId} {tmps : Array Value} {w : World} {g n : Nat} {cs : Array Value}
theorem res_cell_tmp_tmp (hT : StructT ty n) (h : fn.results = #[.cell p ty, .tmp u, .tmp v]) (hp : tmps.getD p undef = .pointer (some ⟨g, 0, none⟩)) (hB : Blk w g ty cs) (hn : cs.size = n) : (results fn tmps).run Tryz.prog w = .ok (.tuple #[.agg cs, tmps.getD u undef, tmps.getD v undef]) w := by
  have hp' : tmps[p]?.getD undef = .pointer (some ⟨g, 0, none⟩) := by simpa using hp
  simp only [results, h]
  simp [hp', asAddr, loadVar_blk hT hB hn]
end
section
variable {S : Nat → Prop} {B t : Nat} {room : Int} {disk : Tp.Disk} {TM : Nat → Tp.Pst → World → Prop}
set_option maxRecDepth 100000 in
set_option maxHeartbeats 2000000 in
theorem next_do (M : Mach S B t room disk TM) (u : Nat) (root : Int) {gf gk : Nat} (hgf : B ≤ gf) (hne : gf < gk) (hul : u < gf) :
    EntFn S B t u TM root 46 #[.pointer (some ⟨gf, 0, none⟩), .pointer (some ⟨gk, 0, none⟩)] nextS (NextP gf gk) where
  keep := fun ⟨h1, h2, h3⟩ hf => ⟨hf.blk h1 (M.far hgf), hf.blk h2 (M.far (by omega)), h3⟩
  less := fun h _ => h
  lt := fun ⟨h1, h2, h3⟩ hy => by
    subst h3
    rcases hy with rfl | rfl
    · exact h1.lt
    · exact h2.lt
  enters := fun args w => by kernel_rfl
  call := fun w x m q Y r σ hP hon => by
    obtain ⟨h1, h2, rfl⟩ := hP
    have k1 : w.cell? ⟨gf, 0, none⟩ = some (.string q.1.1) := h1.cell 0
    have k1' : w.cell? ⟨gf, 1, none⟩ = some (.string q.1.2) := h1.cell 1
    have k2 : w.cell? ⟨gk, 0, none⟩ = some (.bool q.2) := h2.cell 0
    have f1 := h1.frozen 0
    have f1' := h1.frozen 1
    have f2 := h2.frozen 0
    have l1 := h1.lt
    have l2 := h2.lt
    have n1 : gf ≠ gk := by omega
    have n2 : gk ≠ gf := by omega
    have HEND : Hid (On S B t u TM root 0 r σ ((((w.setCell ⟨gf, 0, none⟩ (.string x.1)).setCell ⟨gf, 1, none⟩ (.string x.2)).setCell ⟨gk, 0, none⟩ (.bool true)).alloc (.cells #[.string x.1, .string x.2] 38)) ∧ Fr (fun k => k = gf ∨ k = gk) w ((((w.setCell ⟨gf, 0, none⟩ (.string x.1)).setCell ⟨gf, 1, none⟩ (.string x.2)).setCell ⟨gk, 0, none⟩ (.bool true)).alloc (.cells #[.string x.1, .string x.2] 38)) ∧ ∃ Y', NextP gf gk m (x, true) Y' ((((w.setCell ⟨gf, 0, none⟩ (.string x.1)).setCell ⟨gf, 1, none⟩ (.string x.2)).setCell ⟨gk, 0, none⟩ (.bool true)).alloc (.cells #[.string x.1, .string x.2] 38)) ∧ ∀ k, Y' k → (k = gf ∨ k = gk) ∨ w.heap.size ≤ k) := by
      refine Lib.hid ?_
      have s1 : ∀ (W : World) (i : Nat) (v : Value), Fr (fun k => k = gf) W (W.setCell ⟨gf, i, none⟩ v) := fun W i v => Fr.set_ (S := fun k => k = gf) rfl v
      have s2 : ∀ (W : World) (i : Nat) (v : Value), Fr (fun k => k = gk) W (W.setCell ⟨gk, i, none⟩ v) := fun W i v => Fr.set_ (S := fun k => k = gk) rfl v
      have o1 := hon.own M (s1 _ 0 (.string x.1)) h1 hgf (by omega) (by decide) (by decide) (by decide) (by decide)
      have c1 := h1.set_ 0 (.string x.1)
      have o2 := o1.own M (s1 _ 1 (.string x.2)) c1 hgf (by omega) (by decide) (by decide) (by decide) (by decide)
      have c2 := c1.set_ 1 (.string x.2)
      have d2 := (s1 _ 1 (.string x.2)).blk ((s1 _ 0 (.string x.1)).blk h2 (by omega)) (by omega)
      have o3 := o2.own M (s2 _ 0 (.bool true)) d2 (by omega) (by omega) (by decide) (by decide) (by decide) (by decide)
      have d3 := d2.set_ 0 (.bool true)
      have c3 := (s2 _ 0 (.bool true)).blk c2 (by omega)
      have hF3 : Fr (fun k => k = gf ∨ k = gk) w (((w.setCell ⟨gf, 0, none⟩ (.string x.1)).setCell ⟨gf, 1, none⟩ (.string x.2)).setCell ⟨gk, 0, none⟩ (.bool true)) := (((s1 _ _ _).more fun _ => .inl).trans ((s1 _ _ _).more fun _ => .inl)).trans ((s2 _ _ _).more fun _ => .inr)
      generalize ((w.setCell ⟨gf, 0, none⟩ (.string x.1)).setCell ⟨gf, 1, none⟩ (.string x.2)).setCell ⟨gk, 0, none⟩ (.bool true) = W3 at *
      have hbx := (Below.refl W3.heap.size W3).alloc (Nat.le_refl _) (.cells #[.string x.1, .string x.2] 38)
      exact ⟨o3.below M hbx, hF3.trans (.of_below hbx), _, ⟨c3.below hbx c3.lt, d3.below hbx d3.lt, rfl⟩, fun k a => .inl a⟩
    clear h1 h2 hon M
    show Calls Tryz.prog 46 #[.agg #[.string x.1, .string x.2], .pointer (some ⟨gf, 0, none⟩), .pointer (some ⟨gk, 0, none⟩)] w _
    go_enter Tryz.func46, Tryz.ntmps46
    go_wp2
    go_ret
    exact ⟨rfl, HEND.out⟩
def NxEnd (S : Nat → Prop) (B t u : Nat) (TM : Nat → Tp.Pst → World → Prop) (root : Int) (r : Nat) (σ : Tp.Pst) (q : Ent × Bool) (w : World) (e : Ending) (w' : World) : Prop :=
  e = .returned (.tuple #[.agg #[.string q.1.1, .string q.1.2], .bool q.2, .int .i64 0]) ∧ On S B t u TM root 0 r σ w' ∧ Fr S w w'
set_option maxRecDepth 100000 in
set_option maxHeartbeats 2000000 in
theorem next_any (M : Mach S B t room disk TM) (u : Nat) (root : Int) (frm : ByteArray) (σ : Tp.Pst) (q : Ent × Bool) (b : Bool) (r : Nat) (w : World) (h0 : root = 0 → q = ((⟨#[]⟩, ⟨#[]⟩), false)) (h1 : root ≠ 0 → Tp.pVisit disk σ frm (Tp.ystep nextS) 24 root ((⟨#[]⟩, ⟨#[]⟩), false) = (q, .ok b)) (h : On S B t u TM root 0 (r + Tp.cost Tp.rd disk σ 24 root) σ w) :
    Calls Tryz.prog 19 #[.pointer (some ⟨u, 0, none⟩), .string frm] w (NxEnd S B t u TM root r σ q w) := by
  have hsz := M.size h.tm
  have hun : u < w.heap.size := h.self.lt
  have hb1 := (Below.refl w.heap.size w).alloc (Nat.le_refl _) (.cells #[.string ⟨#[]⟩, .string ⟨#[]⟩] 38)
  have hb2 := hb1.alloc hb1.size (.cells #[.string ⟨#[]⟩, .string ⟨#[]⟩] 38)
  have hb3 := hb2.alloc hb2.size (.cells #[.bool false] 4)
  have hon := h.below M hb3
  have hB0 := ((Blk.new w 38 #[.string ⟨#[]⟩, .string ⟨#[]⟩]).alloc (.cells #[.string ⟨#[]⟩, .string ⟨#[]⟩] 38)).alloc (.cells #[.bool false] 4)
  have hB1 := (Blk.new (w.alloc (.cells #[.string ⟨#[]⟩, .string ⟨#[]⟩] 38)) 38 #[.string ⟨#[]⟩, .string ⟨#[]⟩]).alloc (.cells #[.bool false] 4)
  have hB2 := Blk.new ((w.alloc (.cells #[.string ⟨#[]⟩, .string ⟨#[]⟩] 38)).alloc (.cells #[.string ⟨#[]⟩, .string ⟨#[]⟩] 38)) 4 #[.bool false]
  simp only [World.size_alloc] at hB1 hB2
  have hP : NextP (w.heap.size + 1) (w.heap.size + 1 + 1) (0 + Tp.cost Tp.en disk σ 24 root) ((⟨#[]⟩, ⟨#[]⟩), false) (fun k => k = w.heap.size + 1 ∨ k = w.heap.size + 1 + 1) (((w.alloc (.cells #[.string ⟨#[]⟩, .string ⟨#[]⟩] 38)).alloc (.cells #[.string ⟨#[]⟩, .string ⟨#[]⟩] 38)).alloc (.cells #[.bool false] 4)) := ⟨hB1, hB2, rfl⟩
  have HCALL := Lib.hid (each_any M u root (next_do M u root (show B ≤ w.heap.size + 1 by omega) (Nat.lt_succ_self _) (show u < w.heap.size + 1 by omega)) frm σ 0 ((⟨#[]⟩, ⟨#[]⟩), false) q b _ r _ h0 h1 hP hon)
  have HB0 := Lib.hid hB0
  have HB := Lib.hid hb3
  have HM := Lib.hid M
  clear hb1 hb2 hb3 hon hB0 hB1 hB2 hP h M h0 h1
  go_enter Tryz.func19, Tryz.ntmps19
  go_wp2_with fail
  refine Calls.mono HCALL.out ?_
  rintro e w2 ⟨rfl, hon2, hf2, Y2, ⟨hF2, hK2, _⟩, _⟩
  have hF : Fr S w w2 := (Fr.of_below (S := S) HB.out).go hf2 (fun k a => a.imp id (fun c => by omega))
  have hR2 := hf2.blk HB0.out (fun a => by
    rcases a with a | a | a
    · exact HM.out.far hsz a
    · omega
    · omega)
  have HF := Lib.hid hF
  have HON := Lib.hid hon2
  have HR2 := Lib.hid hR2
  have HF2 := Lib.hid hF2
  have HK2 := Lib.hid hK2
  clear hon2 hf2 hF hR2 hF2 hK2
  go_wp2_with fail
  have hrl := HR2.out.lt
  refine wp_region_flow (base := w2.heap.size) (fun uu => ⟨#[_, _, _, _, _, uu 3, uu 4, _, _, _, _, _, _, _, _, _, _, _, uu 0, uu 1], _⟩)
    [Is.eq _ (.agg #[.string q.1.1, .string q.1.2]), Is.eq _ (.bool q.2), Is.turn _ w.heap.size 38 undef #[.string q.1.1, .string q.1.2], Is.eq _ (.bool q.2), Is.eq _ (.int .i64 0)]
    (by kernel_rfl) (by kernel_rfl) (by kernel_rfl) [w.heap.size] rfl (Nat.le_refl _) (by simpa using hrl) (by simp) ⟨fun k => if k = 3 then .bool false else if k = 4 then .int .i64 0 else undef, rfl⟩ ?_ ?_
  · intro k o ho uu W hf hold hdep
    have hS : ∀ k, k ∈ [w.heap.size] → k = w.heap.size := fun k hk => by simpa using hk
    have hBF := hf.blk HF2.out (fun a => by have := hS _ a; omega)
    have hBK := hf.blk HK2.out (fun a => by have := hS _ a; omega)
    match k, ho with
    | 0, ho =>
      have ho := Option.some.inj ho; subst ho
      exact Does.val (op_ld_row ent_struct rfl rfl hBF rfl) ⟨rfl, rfl, Fr.refl _⟩
    | 1, ho =>
      have ho := Option.some.inj ho; subst ho
      exact Does.val (op_ldbool rfl rfl (hBK.cell 0)) ⟨rfl, rfl, Fr.refl _⟩
    | 2, ho =>
      have ho := Option.some.inj ho; subst ho
      refine does_store_ent rfl rfl (hdep 0 rfl) (Eq.trans (hold _ rfl) HR2.out) fun w' hB hfr => ?_
      exact ⟨rfl, ⟨rfl, hB⟩, hfr.more (fun k hk => by rw [hk]; rfl)⟩
    | 3, ho =>
      have ho := Option.some.inj ho; subst ho
      exact Does.val (op_as rfl (hdep 1 rfl)) ⟨rfl, rfl, Fr.refl _⟩
    | 4, ho =>
      have ho := Option.some.inj ho; subst ho
      exact Does.val (op_as rfl rfl) ⟨rfl, rfl, Fr.refl _⟩
    | n + 5, ho => exact absurd ho (by simp)
  · intro uu W hf hall
    obtain ⟨_, hBW⟩ := hall 2 (by decide)
    have e3 : uu 3 = .bool q.2 := hall 3 (by decide)
    have e4 : uu 4 = .int .i64 0 := hall 4 (by decide)
    simp only [e3, e4]
    have hS : ∀ k, k ∈ [w.heap.size] → k = w.heap.size := fun k hk => by simpa using hk
    have hf' : Fr (fun k => k = w.heap.size) w2 W := hf.more hS
    have HEND := Lib.hid (show NxEnd S B t u TM root r σ q w (.returned (.tuple #[.agg #[.string q.1.1, .string q.1.2], .bool q.2, .int .i64 0])) W from ⟨rfl, HON.out.own HM.out hf' HR2.out hsz (by omega) (by decide) (by decide) (by decide) (by decide), HF.out.go hf' (fun k hk => .inr (by omega))⟩)
    have HBW := Lib.hid hBW
    clear hall hf hf' hBW
    go_wp2
    try simp only [Exit.inBlock, Exit.then]
    refine bodyPost_ret (res_cell_tmp_tmp ent_struct rfl rfl HBW.out rfl) rfl ?_
    exact HEND.out
end
end Go.Proofs.YtpfplojkiloldaaGreatDoor
namespace Go.Proofs.YtpfplojkiloldaaGreatDoor
open Go.RowKit Go.Shelf
def Tp.none_ : Tp.Pst := ⟨[], 2, [], fun _ => none⟩
theorem tmf_start {B t m f n r : Nat} {w : World} (hn : n ≤ 16384) (ht : t < B) (hm : m < B) (hB : B ≤ w.heap.size) (h : Txn w t m f n (Rp.meet [] [(2, pagesN 2 n - 1)]) (pagesN 2 n) 0 (.map [])) : TMf B t m f n r Tp.none_ w := by
  have hp : pagesN 2 n = 2 := by unfold pagesN; omega
  rw [hp] at h
  have h1 := Rp.Ap.start (p := 2) (room := max (n : Int) 2) [] (by omega)
  have e1 : Rp.meet [] [(2, (2 : Int) - 1)] = [] := by decide
  have e2 : Rp.minus [(2, (2 : Int) - 1)] [] = [] := by decide
  rw [e1] at h
  rw [e1, e2] at h1
  exact ⟨⟨ht, hm, hB⟩, h1, fun id hi => absurd hi (by simp [Tp.none_]), .map [], h, KeysAre.nil_, fun id hi => absurd hi (by simp [Tp.none_])⟩
def NewEnd (n r : Nat) (w : World) (e : Ending) (w' : World) : Prop := ∃ B t m f u, e = .returned (.pointer (some ⟨u, 0, none⟩)) ∧ t < B ∧ m < B ∧ w.heap.size ≤ t ∧ w.heap.size ≤ m ∧ w.heap.size ≤ B ∧ On (fun k => k = t ∨ k = m) B t u (TMf B t m f n) 0 0 r Tp.none_ w' ∧ Below w.heap.size w w'
set_option maxRecDepth 100000 in
theorem tree_any (k : Int) (r : Nat) (w : World) : Calls Tryz.prog 13 #[.int .i64 k] w (NewEnd (diskN k) r w) := by
  have hD := hid_calls (dnew_of k w)
  have hn : diskN k ≤ 16384 := by unfold diskN; omega
  generalize diskN k = n at *
  have HN := Lib.hid hn
  clear hn
  go_enter Tryz.func13, Tryz.ntmps13
  go_wp2_with fail
  refine hD.out.mono ?_
  rintro e w1 ⟨d, rfl, hd, hb1⟩
  have HF := Lib.hid (fnew_any d n w1 hd)
  have HB1 := Lib.hid hb1
  clear hd hb1
  go_wp2_with fail
  refine HF.out.mono ?_
  rintro e w2 ⟨f, rfl, hf, hb2⟩
  have HA := Lib.hid (tnew_any f n none 0 [] 2 HN.out w2 hf RS.nil_ (Nat.zero_le _))
  have HB2 := Lib.hid (HB1.out.trans (hb2.mono HB1.out.size))
  clear hf hb2
  go_wp2_with fail
  refine Calls.mono HA.out ?_
  rintro e w3 ⟨t, m, rfl, htm, hT, hb3⟩
  have hB3 := HB2.out.trans (hb3.mono HB2.out.size)
  have htl : t < w3.heap.size := by obtain ⟨_, ⟨v, h2, _⟩, _⟩ := hT; exact h2.lt
  have hml : m < w3.heap.size := by obtain ⟨_, _, es, c, h2, _⟩ := hT; exact (Array.getElem?_eq_some_iff.1 h2).1
  have HC := Lib.hid (ctnew_any (mach_fresh htl hml f n) 0 r Tp.none_ w3 (tmf_start HN.out htl hml (Nat.le_refl _) hT))
  have HEND := Lib.hid (show ∀ u w4, On (fun k => k = t ∨ k = m) w3.heap.size t u (TMf w3.heap.size t m f n) 0 0 r Tp.none_ w4 → Below w3.heap.size w3 w4 → NewEnd n r w (.returned (.pointer (some ⟨u, 0, none⟩))) w4 from fun u w4 ho hb => ⟨_, t, m, f, u, rfl, htl, hml, Nat.le_trans HB2.out.size htm.1, Nat.le_trans HB2.out.size htm.2, hB3.size, ho, hB3.trans (hb.mono hB3.size)⟩)
  clear hT hb3 hB3 htm htl hml
  go_wp2_with fail
  refine HC.out.mono ?_
  rintro e w4 ⟨u, rfl, ho, _, hb⟩
  have HE := Lib.hid (HEND.out u w4 ho hb)
  clear ho hb
  go_wp2
  go_ret
  exact HE.out
end Go.Proofs.YtpfplojkiloldaaGreatDoor
namespace Go.Proofs.YtpfplojkiloldaaGreatDoor
open Go.RowKit Go.Shelf
abbrev TAct := Int × ByteArray × ByteArray
def tactE : Enc TAct := ⟨fun x => [.int .i64 x.1, .string x.2.1, .string x.2.2], 3, fun _ => rfl, by decide, fun x u hu => by simp at hu; rcases hu with rfl | rfl | rfl <;> rfl⟩
theorem LS.tact {w : World} {B : Nat} {A : Option Addr} {l : List TAct} (h : LS tactE w B A l) {k : Nat} (hk : k < l.length) : ∃ b off, A = some ⟨b, off, none⟩ ∧ b < B ∧ w.cell? ⟨b, off + k * 3, none⟩ = some (.int .i64 l[k].1) ∧ w.cell? ⟨b, off + k * 3 + 1, none⟩ = some (.string l[k].2.1) ∧ w.cell? ⟨b, off + k * 3 + 2, none⟩ = some (.string l[k].2.2) := by
  obtain ⟨b, off, rfl, hb, hc⟩ := h.at_ hk
  exact ⟨b, off, rfl, hb, hc 0 (by decide), hc 1 (by decide), hc 2 (by decide)⟩
def wideT (x : TAct) : Bool := decide (60 < x.2.1.size) || decide (60 < x.2.2.size)
def overT (l : List TAct) : Bool := decide (200 < l.length) || l.any wideT
set_option maxRecDepth 100000 in
set_option maxHeartbeats 1000000 in
theorem over_any (A : Option Addr) (c : Nat) (l : List TAct) (w : World) (hr : LS tactE w w.heap.size A l) :
    Calls Tryz.prog 12 #[.slice A l.length c] w fun e w' => e = .returned (.bool (overT l)) ∧ w' = w := by
  by_cases hn : 200 < l.length
  · have hq : overT l = true := by unfold overT; rw [decide_eq_true hn]; rfl
    rw [hq]
    have h1 : (200 : Int) < (l.length : Nat) := by omega
    clear hr hq
    go_enter Tryz.func12, Tryz.ntmps12
    go_wp2
    go_ret
    exact ⟨rfl, rfl⟩
  · have hq : overT l = l.any wideT := by unfold overT; rw [decide_eq_false hn]; rfl
    rw [hq]
    have h1 : ¬ (200 : Int) < (l.length : Nat) := by omega
    have HR := Lib.hid hr
    clear hr hq
    go_enter Tryz.func12, Tryz.ntmps12
    go_wp2
    go_loopg [3] l.length (fun g s3 wr => ∃ k : Nat, s3 = .int .i64 (k : Nat) ∧ k ≤ l.length ∧ l.length - k ≤ g ∧ Hid (l.any wideT = (l.drop k).any wideT) ∧ wr = w)
    case atStart => exact ⟨0, rfl, Nat.zero_le _, by omega, Lib.hid rfl, rfl⟩
    case round =>
      obtain ⟨k, rfl, hkl, hkg, HK, rfl⟩ := hrel
      by_cases hk : k < l.length
      · obtain ⟨b, off, rfl, hb, c0, c1, c2⟩ := HR.out.tact hk
        have hst := HK.out
        rw [List.drop_eq_getElem_cons hk, List.any_cons] at hst
        have hki : (k : Int) < (l.length : Nat) := by omega
        have hwk : IntKind.i64.wrap ((k : Int) + 1) = (k : Int) + 1 := IntWalk.i64_in _ (by omega)
        have HST := Lib.hid hst
        clear hst
        generalize l[k] = x at *
        by_cases w1 : 60 < x.2.1.size
        · have d1 : (60 : Int) < (x.2.1.size : Nat) := by omega
          have HE := Lib.hid (show l.any wideT = true by rw [HST.out]; simp [wideT, w1])
          go_wp2
          go_ret
          exact ⟨by rw [HE.out]; rfl, rfl⟩
        · have d1 : ¬ (60 : Int) < (x.2.1.size : Nat) := by omega
          by_cases w2 : 60 < x.2.2.size
          · have d2 : (60 : Int) < (x.2.2.size : Nat) := by omega
            have HE := Lib.hid (show l.any wideT = true by rw [HST.out]; simp [wideT, w2])
            go_wp2
            go_ret
            exact ⟨by rw [HE.out]; rfl, rfl⟩
          · have d2 : ¬ (60 : Int) < (x.2.2.size : Nat) := by omega
            have HE := Lib.hid (show l.any wideT = (l.drop (k + 1)).any wideT by rw [HST.out]; simp [wideT, w1, w2])
            go_wp2
            go_roundg (l.length - (k + 1))
            case measure => omega
            case rel => exact ⟨k + 1, by go_num, by omega, Nat.le_refl _, HE, rfl⟩
      · have hki : ¬ (k : Int) < (l.length : Nat) := by omega
        obtain rfl : k = l.length := by omega
        have HE := Lib.hid (show l.any wideT = false by rw [HK.out, List.drop_of_length_le (Nat.le_refl _)]; rfl)
        go_wp2
        go_ret
        exact ⟨by rw [HE.out]; rfl, rfl⟩
end Go.Proofs.YtpfplojkiloldaaGreatDoor
namespace Go.Proofs.YtpfplojkiloldaaGreatDoor
open Go.RowKit Go.Shelf
structure RawPg where
  id : Int
  depth : Nat
  leaf : Bool
  ae : Option Addr
  ne : Nat
  ce : Nat
  ai : Option Addr
  ni : Nat
  ci : Nat
  ay : Option Addr
  ny : Nat
  cy : Nat
def RawPg.cells (x : RawPg) : List Value := [.int .i64 x.id, .int .i64 (x.depth : Nat), .bool x.leaf, .slice x.ae x.ne x.ce, .slice x.ai x.ni x.ci, .slice x.ay x.ny x.cy]
def pgE : Enc RawPg := ⟨RawPg.cells, 6, fun _ => rfl, by decide, fun x u hu => by simp [RawPg.cells] at hu; rcases hu with rfl | rfl | rfl | rfl | rfl | rfl <;> rfl⟩
theorem eiPg : EI Tryz.prog 60 (.agg #[.int .i64 0, .int .i64 0, .bool false, .slice none 0 0, .slice none 0 0, .slice none 0 0]) 6 96 := EI.mk (by kernel_rfl)
def PgAt (lo : Nat) (w : World) (x : RawPg) (p : Int × Nat × Nd.Node) : Prop := x.id = p.1 ∧ x.depth = p.2.1 ∧ NF lo w (nodeV x.leaf x.ae x.ne x.ce x.ai x.ni x.ci x.ay x.ny x.cy) p.2.2
def PgsAt (lo : Nat) (w : World) (xs : List RawPg) (l : List (Int × Nat × Nd.Node)) : Prop := xs.length = l.length ∧ ∀ (j : Nat) (h1 : j < xs.length) (h2 : j < l.length), PgAt lo w xs[j] l[j]
section
variable {S : Nat → Prop} {lo lo' : Nat} {w w' : World} {xs : List RawPg} {l : List (Int × Nat × Nd.Node)}
theorem PgsAt.nil_ (lo : Nat) (w : World) : PgsAt lo w [] [] := ⟨rfl, fun j h => absurd h (by simp)⟩
theorem PgsAt.below (h : PgsAt lo w xs l) (hb : Below w.heap.size w w') : PgsAt lo w' xs l := ⟨h.1, fun j h1 h2 => ⟨(h.2 j h1 h2).1, (h.2 j h1 h2).2.1, (h.2 j h1 h2).2.2.below hb⟩⟩
theorem PgsAt.fr (h : PgsAt lo w xs l) (hf : Fr S w w') (hS : ∀ k, S k → k < lo) : PgsAt lo w' xs l := ⟨h.1, fun j h1 h2 => ⟨(h.2 j h1 h2).1, (h.2 j h1 h2).2.1, (h.2 j h1 h2).2.2.fr hf hS⟩⟩
theorem PgsAt.lower (h : PgsAt lo w xs l) (hl : lo' ≤ lo) : PgsAt lo' w xs l := ⟨h.1, fun j h1 h2 => ⟨(h.2 j h1 h2).1, (h.2 j h1 h2).2.1, (h.2 j h1 h2).2.2.lower hl⟩⟩
theorem PgsAt.snoc (h : PgsAt lo w xs l) {x : RawPg} {p : Int × Nat × Nd.Node} (hp : PgAt lo w x p) : PgsAt lo w (xs ++ [x]) (l ++ [p]) := by
  refine ⟨by simp [h.1], fun j h1 h2 => ?_⟩
  have he := h.1
  by_cases hj : j < xs.length
  · rw [List.getElem_append_left hj, List.getElem_append_left (by omega)]
    exact h.2 j hj (by omega)
  · rw [List.length_append, List.length_singleton] at h1
    obtain rfl : j = xs.length := by omega
    rw [List.getElem_append_right (Nat.le_refl _), List.getElem_append_right (by omega)]
    simpa [he] using hp
end
end Go.Proofs.YtpfplojkiloldaaGreatDoor
namespace Go.Proofs.YtpfplojkiloldaaGreatDoor
open Go.RowKit Go.Shelf
theorem NF.row2 {lo b s n0 : Nat} {w w' : World} {v v2 : Value} {n : Nd.Node} {xs : List Value} (h : NF lo w v n) (ho : w.ownsRow b 60 s v2 n0 xs) (hg : w.grownBy w' v2.ownBlock) : NF lo w' v n := by
  obtain ⟨Ae, ce, Ai, ci, Ay, cy, e, h1, h2, h3⟩ := h
  exact ⟨Ae, ce, Ai, ci, Ay, cy, e, h1.row2 ho (by decide) hg, h2.row2 ho (by decide) hg, h3.row2 ho (by decide) hg⟩
theorem PgsAt.row2 {lo b s n0 : Nat} {w w' : World} {v2 : Value} {ys : List RawPg} {l : List (Int × Nat × Nd.Node)} {xs : List Value} (h : PgsAt lo w ys l) (ho : w.ownsRow b 60 s v2 n0 xs) (hg : w.grownBy w' v2.ownBlock) : PgsAt lo w' ys l := ⟨h.1, fun j h1 h2 => ⟨(h.2 j h1 h2).1, (h.2 j h1 h2).2.1, (h.2 j h1 h2).2.2.row2 ho hg⟩⟩
theorem walk_view {disk : Tp.Disk} {σ : Tp.Pst} {f : Nat} {l l' : List (Int × Nat × Nd.Node)} {id : Int} (h : Tp.pWalk disk σ f l id = (l', 0)) : ∃ f' n, f = f' + 1 ∧ σ.view disk id = some n ∧ Tp.pWalkKids (Tp.pWalk disk σ f') n.kids (l ++ [(id, 24 - (f' + 1), n)]) = (l', 0) := by
  cases f with
  | zero => rw [Tp.pWalk] at h; simp at h
  | succ f =>
    rw [Tp.pWalk] at h
    cases hv : σ.view disk id with
    | none => rw [hv] at h; simp at h
    | some n => rw [hv] at h; exact ⟨f, n, rfl, rfl, h⟩
theorem walkKids_at {wk : List (Int × Nat × Nd.Node) → Int → List (Int × Nat × Nd.Node) × Int} {ks : List Int} {j : Nat} (hj : j < ks.length) {l l' : List (Int × Nat × Nd.Node)} (h : Tp.pWalkKids wk (ks.drop j) l = (l', 0)) : ∃ l1, wk l ks[j] = (l1, 0) ∧ Tp.pWalkKids wk (ks.drop (j + 1)) l1 = (l', 0) := by
  rw [List.drop_eq_getElem_cons hj, Tp.pWalkKids] at h
  generalize hx : wk l ks[j] = x at h
  obtain ⟨l1, e⟩ := x
  by_cases he : e = 0
  · subst he; exact ⟨l1, rfl, h⟩
  · exfalso
    split at h
    · rename_i heq; exact he (by injection heq)
    · injection h with _ h; exact he (by simp_all)
theorem walkKids_len {wk : List (Int × Nat × Nd.Node) → Int → List (Int × Nat × Nd.Node) × Int} (hw : ∀ l id, l.length ≤ (wk l id).1.length) : ∀ (ks : List Int) (l : List (Int × Nat × Nd.Node)), l.length ≤ (Tp.pWalkKids wk ks l).1.length
  | [], l => Nat.le_refl _
  | k :: ks, l => by
    rw [Tp.pWalkKids]
    have h := hw l k
    split
    · rename_i l1 he
      rw [he] at h
      exact Nat.le_trans h (walkKids_len hw ks l1)
    · rename_i l1 e he _
      rw [‹wk l k = _›] at h
      exact h
theorem walk_len (disk : Tp.Disk) (σ : Tp.Pst) : ∀ (f : Nat) (l : List (Int × Nat × Nd.Node)) (id : Int), l.length ≤ (Tp.pWalk disk σ f l id).1.length
  | 0, l, id => Nat.le_refl _
  | f + 1, l, id => by
    rw [Tp.pWalk]
    split
    · exact Nat.le_refl _
    · have := walkKids_len (walk_len disk σ f) ‹Nd.Node›.kids (l ++ [(id, 24 - (f + 1), ‹Nd.Node›)])
      rw [List.length_append] at this
      omega
end Go.Proofs.YtpfplojkiloldaaGreatDoor
