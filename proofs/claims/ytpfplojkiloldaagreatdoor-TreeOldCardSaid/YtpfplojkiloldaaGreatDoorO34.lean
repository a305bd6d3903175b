/- Part of this proof. -/
import Derived.Test.YtpfplojkiloldaaGreatDoorO33
set_option maxRecDepth 100000
set_option maxHeartbeats 8000000
namespace Go.Proofs.YtpfplojkiloldaaGreatDoor
open Go.RowKit Go.Shelf
structure EntFn (S : Nat -> Prop) (B t u : Nat) (TM : Nat -> Tp.Pst -> World -> Prop) (root : Int) (yf : FuncId) (caps : Array Value) {Q : Type} (y : Q -> Ent -> Q × Bool) (P : Nat -> Q -> (Nat -> Prop) -> World -> Prop) : Prop where
 keep : ∀ {m q Y w w'}, P m q Y w -> Fr S w w' -> P m q Y w'
 less : ∀ {m m' q Y w}, P m' q Y w -> m <= m' -> P m q Y w
 lt : ∀ {m q Y w k}, P m q Y w -> Y k -> k < w.heap.size
 call : ∀ w (x : Ent) m q Y r σ, P (m + 1) q Y w -> On S B t u TM root 0 r σ w -> Calls Tryz.prog yf (#[.agg #[.string x.1, .string x.2]] ++ caps) w fun e w' => e = .returned (.bool (y q x).2) /\ On S B t u TM root 0 r σ w' /\ Fr Y w w' /\ ∃ Y', P m (y q x).1 Y' w' /\ ∀ k, Y' k -> Y k \/ w.heap.size <= k
 enters : ∀ (args : Array Value) (w : World), (callFunc yf args).run Tryz.prog w = .ok (.enter yf args) w
theorem ystep_at {Q : Type} {y : Q -> Ent -> Q × Bool} {l : List Ent} {j : Nat} (hj : j < l.length) (q : Q) : Tp.ystep y q (l.drop j) = if (y q l[j]).2 then Tp.ystep y (y q l[j]).1 (l.drop (j + 1)) else ((y q l[j]).1, false) := by
 rw [List.drop_eq_getElem_cons hj, Tp.ystep]
section
variable {S : Nat -> Prop} {B t : Nat} {room : Int} {disk : Tp.Disk} {TM : Nat -> Tp.Pst -> World -> Prop}
theorem each_do (M : Mach S B t room disk TM) (u : Nat) (root : Int) {yf : FuncId} {caps : Array Value} {Q : Type} {y : Q -> Ent -> Q × Bool} {P : Nat -> Q -> (Nat -> Prop) -> World -> Prop} (V : EntFn S B t u TM root yf caps y P) {ge : Nat} (hge : B <= ge) :
   VisFn S B t u TM root 78 #[.pointer (some ⟨ge, 0, none⟩)] (Tp.ystep y) (fun m q Y w => P m q Y w /\ Blk w ge 88 #[.func (.func yf) #[] caps] /\ ¬ Y ge) where
 keep := fun h hf => ⟨V.keep h.1 hf, hf.blk h.2.1 (M.far hge), h.2.2⟩
 less := fun h hm => ⟨V.less h.1 hm, h.2⟩
 lt := fun h a => V.lt h.1 a
 enters := fun args w => by kernel_rfl
 call := fun w A c l n m q Y r σ hP hon hls hAY hn hl => by
   subst hn
   have HM := Lib.hid M
   have HV := Lib.hid V
   have HLS := Lib.hid hls
   have HAY := Lib.hid hAY
   have HP := Lib.hid hP
   have HON := Lib.hid hon
   have hgl := hP.2.1.lt
   clear hP hon hls hAY M V
   show Calls Tryz.prog 78 #[.slice A l.length c, .pointer (some ⟨ge, 0, none⟩)] w _
   go_enter Tryz.func78, Tryz.ntmps78
   go_wp2
   go_loopg [8] l.length (fun g s8 wr => ∃ (j : Nat) (qj : Q) (Yj : Nat -> Prop), s8 = .int .i64 (j : Nat) /\ j <= l.length /\ l.length - j <= g /\ Hid (Tp.ystep y qj (l.drop j) = Tp.ystep y q l) /\ Hid (P (m + (l.length - j)) qj Yj wr /\ Blk wr ge 88 #[.func (.func yf) #[] caps] /\ ¬ Yj ge) /\ Hid (∀ k, Yj k -> Y k \/ w.heap.size <= k) /\ Hid (On S B t u TM root 0 r σ wr) /\ Hid (Fr Y w wr) /\ Hid (∀ b off, A = some ⟨b, off, none⟩ -> b < w.heap.size -> wr.heap[b]? = w.heap[b]?))
   case atStart => exact ⟨0, q, Y, rfl, Nat.zero_le _, by omega, Lib.hid rfl, Lib.hid HP.out, Lib.hid (fun k a => .inl a), HON, Lib.hid (Fr.refl _), Lib.hid (fun _ _ _ _ => rfl)⟩
   case round =>
     obtain ⟨j, qj, Yj, rfl, hjL, hjg, HGJ, HPJ, HYJ, HONJ, HFJ, HBJ⟩ := hrel
     have hwz := HFJ.out.size
     by_cases hj : j < l.length
     · obtain ⟨bb, oo, rfl, hbb, k1, k2⟩ := HLS.out.ent hj
       have hcell : ∀ o, wr.cell? ⟨bb, o, none⟩ = w.cell? ⟨bb, o, none⟩ := fun o => by
         unfold World.cell?
         rw [HBJ.out bb oo rfl hbb]
       rw [<- hcell] at k1 k2
       have hbl : bb < wr.heap.size := by omega
       have hst := HGJ.out
       rw [ystep_at hj] at hst
       have hbx := (Below.refl wr.heap.size wr).alloc (Nat.le_refl _) (.cells #[.string l[j].1, .string l[j].2] 38)
       have hP5 := HV.out.less (m := m + (l.length - (j + 1)) + 1) (HV.out.keep HPJ.out.1 (Fr.of_below hbx)) (by omega)
       have hB5 := HPJ.out.2.1.below hbx HPJ.out.2.1.lt
       have HCALL := Lib.hid (HV.out.call _ l[j] (m + (l.length - (j + 1))) qj Yj r σ hP5 (HONJ.out.below HM.out hbx))
       have gfn := hB5.cell 0
       have hgl5 := hB5.lt
       have HBX := Lib.hid hbx
       have HB5 := Lib.hid hB5
       have hwj : IntKind.i64.wrap ((j : Int) + 1) = (j : Int) + 1 := IntWalk.i64_in _ (by omega)
       have hjLi : (j : Int) < l.length := by omega
       have HST := Lib.hid hst
       clear hst hP5 hB5 hbx hcell
       generalize l[j] = x at *
       go_wp2_with fail
       rw [HV.out.enters, Oper.upon_enter]
       refine Calls.mono HCALL.out ?_
       rintro e w4 ⟨rfl, hon4, hf4, Y4, hP4, hY4⟩
       have hF4 : Fr Y w w4 := (HFJ.out.trans (.of_below HBX.out)).go hf4 HYJ.out
       have hz5 := HBX.out.size
       have hY4' : ∀ k, Y4 k -> Y k \/ w.heap.size <= k := fun k a => by
         rcases hY4 k a with a | a
         · exact HYJ.out k a
         · exact .inr (by omega)
       have hge4 : ¬ Y4 ge := fun a => by
         rcases hY4 ge a with a | a
         · exact HPJ.out.2.2 a
         · have := HPJ.out.2.1.lt; omega
       have HP4 := Lib.hid (show P (m + (l.length - (j + 1))) (y qj x).1 Y4 w4 /\ Blk w4 ge 88 #[.func (.func yf) #[] caps] /\ ¬ Y4 ge from ⟨hP4, hf4.blk HB5.out HPJ.out.2.2, hge4⟩)
       have HY4 := Lib.hid hY4'
       have HON4 := Lib.hid hon4
       have HF4 := Lib.hid hF4
       have HB4 := Lib.hid (show ∀ b off, (some ⟨bb, oo, none⟩ : Option Addr) = some ⟨b, off, none⟩ -> b < w.heap.size -> w4.heap[b]? = w.heap[b]? from fun b off e hb => by
         have hny : ¬ Y b := HAY.out ⟨b, off, none⟩ e
         exact hF4.block b hb hny)
       clear hon4 hf4 hP4 hY4 hF4 hY4' hge4
       obtain ⟨qb, hqb⟩ : ∃ z, z = y qj x := ⟨_, rfl⟩
       rw [<- hqb] at HST HP4 ⊢
       clear hqb
       obtain ⟨q1, b1⟩ := qb
       simp only at HST HP4 ⊢
       cases b1 with
       | true =>
         have HST2 := Lib.hid (show Tp.ystep y q1 (l.drop (j + 1)) = Tp.ystep y q l by have := HST.out; simpa using this)
         clear HST
         go_wp2
         go_roundg (l.length - (j + 1))
         case measure => omega
         case rel => exact ⟨j + 1, q1, Y4, by go_num, by omega, Nat.le_refl _, HST2, HP4, HY4, HON4, HF4, HB4⟩
       | false =>
         have HE := Lib.hid (show Tp.ystep y q l = (q1, false) by have := HST.out; simpa using this.symm)
         clear HST
         have HEND := Lib.hid (show On S B t u TM root 0 r σ w4 /\ Fr Y w w4 /\ ∃ Y', (P m q1 Y' w4 /\ Blk w4 ge 88 #[.func (.func yf) #[] caps] /\ ¬ Y' ge) /\ ∀ k, Y' k -> Y k \/ w.heap.size <= k from ⟨HON4.out, HF4.out, Y4, ⟨HV.out.less HP4.out.1 (Nat.le_add_right _ _), HP4.out.2⟩, HY4.out⟩)
         go_wp2
         go_ret
         rw [HE.out]
         exact ⟨rfl, HEND.out⟩
     · have hjLi : ¬ (j : Int) < l.length := by omega
       obtain rfl : j = l.length := by omega
       have hend := HGJ.out
       rw [List.drop_eq_nil_of_le (Nat.le_refl _), Tp.ystep] at hend
       have HE := Lib.hid hend
       have HEND := Lib.hid (show On S B t u TM root 0 r σ wr /\ Fr Y w wr /\ ∃ Y', (P m qj Y' wr /\ Blk wr ge 88 #[.func (.func yf) #[] caps] /\ ¬ Y' ge) /\ ∀ k, Y' k -> Y k \/ w.heap.size <= k from ⟨HONJ.out, HFJ.out, Yj, ⟨HV.out.less HPJ.out.1 (Nat.le_add_right _ _), HPJ.out.2⟩, HYJ.out⟩)
       clear hend
       go_wp2
       go_ret
       rw [<- HE.out]
       exact ⟨rfl, HEND.out⟩
def EaEnd (S : Nat -> Prop) (B t u : Nat) (TM : Nat -> Tp.Pst -> World -> Prop) (root : Int) (r : Nat) (σ : Tp.Pst) {Q : Type} (P : Nat -> Q -> (Nat -> Prop) -> World -> Prop) (m : Nat) (q : Q) (Y : Nat -> Prop) (w : World) (e : Ending) (w' : World) : Prop :=
 e = .returned (.int .i64 0) /\ On S B t u TM root 0 r σ w' /\ Fr (fun k => S k \/ Y k) w w' /\ ∃ Y', P m q Y' w' /\ ∀ k, Y' k -> Y k \/ w.heap.size <= k
theorem each_any (M : Mach S B t room disk TM) (u : Nat) (root : Int) {yf : FuncId} {caps : Array Value} {Q : Type} {y : Q -> Ent -> Q × Bool} {P : Nat -> Q -> (Nat -> Prop) -> World -> Prop} (V : EntFn S B t u TM root yf caps y P) (frm : ByteArray) (σ : Tp.Pst) (m : Nat) (q q' : Q) (b : Bool) (Y : Nat -> Prop) (r : Nat) (w : World) (h0 : root = 0 -> q' = q) (h1 : root ≠ 0 -> Tp.pVisit disk σ frm (Tp.ystep y) 24 root q = (q', .ok b)) (hP : P (m + Tp.cost Tp.en disk σ 24 root) q Y w) (h : On S B t u TM root 0 (r + Tp.cost Tp.rd disk σ 24 root) σ w) :
   Calls Tryz.prog 44 #[.pointer (some ⟨u, 0, none⟩), .string frm, .func (.func yf) #[] caps] w (EaEnd S B t u TM root r σ P m q' Y w) := by
 have hsz := M.size h.tm
 have hb1 := (Below.refl w.heap.size w).alloc (Nat.le_refl _) (.cells #[.func (.func yf) #[] caps] 88)
 have hon := h.below M hb1
 have t1 : (w.alloc (.cells #[.func (.func yf) #[] caps] 88)).cell? ⟨u, 1, none⟩ = some (.int .i64 root) := hon.self.cell 1
 have t2 : (w.alloc (.cells #[.func (.func yf) #[] caps] 88)).cell? ⟨u, 2, none⟩ = some (.int .i64 0) := hon.self.cell 2
 have lt2 := hon.self.lt
 have hun : u < w.heap.size := h.self.lt
 have hP1 := V.keep hP (Fr.of_below hb1)
 have hBg := Blk.new w 88 #[.func (.func yf) #[] caps]
 by_cases hr : root = 0
 · have hq := h0 hr
   subst hr hq
   have HEND := Lib.hid (show EaEnd S B t u TM 0 r σ P m q' Y w (.returned (.int .i64 0)) (w.alloc (.cells #[.func (.func yf) #[] caps] 88)) from ⟨rfl, hon.less M (by omega), .of_below hb1, Y, V.less hP1 (by omega), fun k a => .inl a⟩)
   clear hP1 hon hb1 h hP M V h1 h0 hBg
   go_enter Tryz.func44, Tryz.ntmps44
   go_wp2
   go_ret
   exact HEND.out
 · have hv := h1 hr
   have hny : ¬ Y w.heap.size := fun a => by have := V.lt hP a; omega
   have HCALL := Lib.hid (visit_any M u root (each_do M u root V (show B <= w.heap.size from hsz)) frm σ 24 0 root m q q' b Y r _ (by omega) hv ⟨hP1, hBg, hny⟩ hon)
   have hrn : (root == 0) = false := by simpa using hr
   have HF := Lib.hid hb1
   clear hP1 hon hb1 h hP M V h1 h0 hBg hv hny
   go_enter Tryz.func44, Tryz.ntmps44
   go_wp2_with fail
   refine Calls.mono HCALL.out ?_
   rintro e w2 ⟨rfl, hon2, hf2, Y2, ⟨hP2, hB2, hn2⟩, hY2⟩
   have HEND := Lib.hid (show EaEnd S B t u TM root r σ P m q' Y w (.returned (.int .i64 0)) w2 from ⟨rfl, hon2, (Fr.of_below HF.out).trans hf2, Y2, hP2, fun k a => (hY2 k a).imp_right (fun c => Nat.le_trans HF.out.size c)⟩)
   clear hon2 hf2 hP2 hB2 hn2 hY2
   go_wp2
   go_ret
   exact HEND.out
end
def scanS (hi_ : ByteArray) (acc : List Ent) (x : Ent) : List Ent × Bool := if hi_.toList = [] \/ En.lt x.1 hi_ = true then (acc ++ [x], true) else (acc, false)
def ScanP (gto gl : Nat) (hi_ : ByteArray) (m : Nat) (acc : List Ent) (Y : Nat -> Prop) (w : World) : Prop :=
 acc.length + m <= 1000000 /\ Blk w gto 9 #[.string hi_] /\ ∃ A c, Blk w gl 32 #[.slice A acc.length c] /\ LO entE 38 w (gl + 1) (.slice A acc.length c) acc /\ Y = fun k => k = gl \/ (Value.slice A acc.length c).ownBlock = some k
section
variable {S : Nat -> Prop} {B t : Nat} {room : Int} {disk : Tp.Disk} {TM : Nat -> Tp.Pst -> World -> Prop}
theorem scan_do (M : Mach S B t room disk TM) (u : Nat) (root : Int) (hi_ : ByteArray) {gto gl : Nat} (hto : B <= gto) (hne : gto < gl) (hul : u < gto) :
   EntFn S B t u TM root 45 #[.pointer (some ⟨gto, 0, none⟩), .pointer (some ⟨gl, 0, none⟩)] (scanS hi_) (ScanP gto gl hi_) where
 keep := fun ⟨h0, h1, A, c, h2, h3, h4⟩ hf => ⟨h0, hf.blk h1 (M.far hto), A, c, hf.blk h2 (M.far (by omega)), h3.fr hf (fun k a => by have := M.low k a; omega), h4⟩
 less := fun ⟨h0, h1⟩ hm => ⟨by omega, h1⟩
 lt := fun ⟨h0, h1, A, c, h2, h3, h4⟩ hy => by
   subst h4
   rcases hy with rfl | hy
   · exact h2.lt
   · obtain ⟨cs, hcs⟩ := own_obj h3 hy
     exact (Array.getElem?_eq_some_iff.1 hcs).1
 enters := fun args w => by kernel_rfl
 call := fun w x m acc Y r σ hP hon => by
   obtain ⟨h0, h1, A, c, h2, h3, rfl⟩ := hP
   have HM := Lib.hid M
   have hbx := (Below.refl w.heap.size w).alloc (Nat.le_refl _) (.cells #[.string x.1, .string x.2] 38)
   have b1 := h1.below hbx h1.lt
   have b2 := h2.below hbx h2.lt
   have k1 : (w.alloc (.cells #[.string x.1, .string x.2] 38)).cell? ⟨gto, 0, none⟩ = some (.string hi_) := b1.cell 0
   have k2 : (w.alloc (.cells #[.string x.1, .string x.2] 38)).cell? ⟨gl, 0, none⟩ = some (.slice A acc.length c) := b2.cell 0
   have l1 := b1.lt
   have l2 := b2.lt
   have l1w := h1.lt
   have l2w := h2.lt
   have HB1 := Lib.hid b1
   have HB2 := Lib.hid b2
   have HR := Lib.hid (h3.below hbx)
   have HON := Lib.hid (hon.below M hbx)
   have HBX := Lib.hid hbx
   have H1 := Lib.hid h1
   have H2 := Lib.hid h2
   have H3 := Lib.hid h3
   have HONW := Lib.hid hon
   clear h1 h2 h3 b1 b2 hbx hon M
   unfold scanS
   show Calls Tryz.prog 45 #[.agg #[.string x.1, .string x.2], .pointer (some ⟨gto, 0, none⟩), .pointer (some ⟨gl, 0, none⟩)] w _
   by_cases hin : hi_.toList = [] \/ En.lt x.1 hi_ = true
   · rw [if_pos hin]
     have HFIN : Hid (∀ A' c' w3, w3.ownsRow (gl + 1) 38 2 (.slice A' (acc.length + 1) c') (acc.length + 1) (entE.cells acc ++ [.string x.1, .string x.2]) -> (w.alloc (.cells #[.string x.1, .string x.2] 38)).grownBy w3 (Value.slice A acc.length c).ownBlock -> ((Value.slice A' (acc.length + 1) c').ownBlock = (Value.slice A acc.length c).ownBlock \/ ∃ g, (Value.slice A' (acc.length + 1) c').ownBlock = some g /\ (w.alloc (.cells #[.string x.1, .string x.2] 38)).heap.size <= g) -> Below (gl + 1) (w.alloc (.cells #[.string x.1, .string x.2] 38)) w3 -> On S B t u TM root 0 r σ (w3.setCell ⟨gl, 0, none⟩ (.slice A' (acc.length + 1) c')) /\ Fr (fun k => k = gl \/ (Value.slice A acc.length c).ownBlock = some k) w (w3.setCell ⟨gl, 0, none⟩ (.slice A' (acc.length + 1) c')) /\ ∃ Y', ScanP gto gl hi_ m (acc ++ [x]) Y' (w3.setCell ⟨gl, 0, none⟩ (.slice A' (acc.length + 1) c')) /\ ∀ k, Y' k -> (k = gl \/ (Value.slice A acc.length c).ownBlock = some k) \/ w.heap.size <= k) := by
       refine Lib.hid fun A' c' w3 hown hg hob hbel => ?_
       have hon3 := HON.out.row HM.out HR.out (show B <= gl + 1 by omega) (by decide) (by decide) (by decide) (by decide) (by decide) hg
       have hB3 := HB2.out.below hbel (Nat.lt_succ_self _)
       have hT3 := HB1.out.below hbel (by omega)
       have hfs : Fr (fun k => k = gl) w3 (w3.setCell ⟨gl, 0, none⟩ (.slice A' (acc.length + 1) c')) := Fr.set_ (S := fun k => k = gl) rfl _
       have hB4 : Blk (w3.setCell ⟨gl, 0, none⟩ (.slice A' (acc.length + 1) c')) gl 32 #[.slice A' (acc.length + 1) c'] := hB3.set_ 0 _
       have hL3 : LO entE 38 w3 (gl + 1) (.slice A' (acc.length + 1) c') (acc ++ [x]) := LO.snoc rfl rfl rfl hown
       have hL4 := hL3.fr hfs (fun k a => by omega)
       have hlen : (acc ++ [x]).length = acc.length + 1 := by simp
       refine ⟨hon3.own HM.out hfs hB3 (by omega) (by omega) (by decide) (by decide) (by decide) (by decide), ((Fr.of_below HBX.out).trans ((Fr.of_grown hg).more fun k a => .inr a)).trans (hfs.more fun k a => .inl a), _, ⟨by omega, hfs.blk hT3 (by omega), A', c', by rw [hlen]; exact hB4, by rw [hlen]; exact hL4, rfl⟩, ?_⟩
       intro k hk
       rw [hlen] at hk
       rcases hk with hk | hk
       · exact .inl (.inl hk)
       · rcases hob with hob | ⟨g, hob, hge⟩
         · exact .inl (.inr (by rw [<- hob]; exact hk))
         · rw [hob] at hk; injection hk with hk; subst hk; exact .inr (Nat.le_trans HBX.out.size hge)
     have hrow : (w.alloc (.cells #[.string x.1, .string x.2] 38)).ownsRow (gl + 1) 38 2 (.slice A acc.length c) acc.length (entE.cells acc) := HR.out
     have hbase : gl + 1 <= (w.alloc (.cells #[.string x.1, .string x.2] 38)).heap.size := l2
     by_cases he : hi_.toList = []
     · have he2 : hi_.toList.isEmpty = true := by simpa using he
       clear hin
       go_enter Tryz.func45, Tryz.ntmps45
       go_wp2_with (at_builtin; refine wpList_app1 rfl _ _ 32 rfl eiEnt Tryz.underlying32 rfl (by decide) rfl hrow rfl (by simp) rfl (by simp [Value.oneCell']) (by unfold maxLen; omega) (by omega) hbase ?_; intro v' w3 hown' hgrow hbel hob _; obtain ⟨A', c', rfl⟩ := own_form hown'; have hB3 := HB2.out.below hbel (Nat.lt_succ_self _); have k3 : w3.cell? ⟨gl, 0, none⟩ = some (.slice A acc.length c) := hB3.cell 0; have f3 := hB3.frozen 0; have l3 := hB3.lt; have HEND := Lib.hid (HFIN.out A' c' w3 hown' hgrow hob hbel); clear hB3 hown' hgrow hob hbel)
       go_ret
       exact ⟨rfl, HEND.out⟩
     · have he2 : hi_.toList.isEmpty = false := by simpa using he
       have hlt : Go.Op.bytesLess x.1.toList hi_.toList = true := by
         rcases hin with a | a
         · exact absurd a he
         · exact a
       clear hin
       go_enter Tryz.func45, Tryz.ntmps45
       go_wp2_with (at_builtin; refine wpList_app1 rfl _ _ 32 rfl eiEnt Tryz.underlying32 rfl (by decide) rfl hrow rfl (by simp) rfl (by simp [Value.oneCell']) (by unfold maxLen; omega) (by omega) hbase ?_; intro v' w3 hown' hgrow hbel hob _; obtain ⟨A', c', rfl⟩ := own_form hown'; have hB3 := HB2.out.below hbel (Nat.lt_succ_self _); have k3 : w3.cell? ⟨gl, 0, none⟩ = some (.slice A acc.length c) := hB3.cell 0; have f3 := hB3.frozen 0; have l3 := hB3.lt; have HEND := Lib.hid (HFIN.out A' c' w3 hown' hgrow hob hbel); clear hB3 hown' hgrow hob hbel)
       go_ret
       exact ⟨rfl, HEND.out⟩
   · rw [if_neg hin]
     have he : ¬ hi_.toList = [] := fun a => hin (.inl a)
     have he2 : hi_.toList.isEmpty = false := by simpa using he
     have hlt : Go.Op.bytesLess x.1.toList hi_.toList = false := by
       have : ¬ En.lt x.1 hi_ = true := fun a => hin (.inr a)
       simpa [En.lt] using this
     go_enter Tryz.func45, Tryz.ntmps45
     have HEND := Lib.hid (show On S B t u TM root 0 r σ (w.alloc (.cells #[.string x.1, .string x.2] 38)) /\ Fr (fun k => k = gl \/ (Value.slice A acc.length c).ownBlock = some k) w (w.alloc (.cells #[.string x.1, .string x.2] 38)) /\ ∃ Y', ScanP gto gl hi_ m acc Y' (w.alloc (.cells #[.string x.1, .string x.2] 38)) /\ ∀ k, Y' k -> (k = gl \/ (Value.slice A acc.length c).ownBlock = some k) \/ w.heap.size <= k from ⟨HON.out, .of_below HBX.out, _, ⟨by omega, HB1.out, A, c, HB2.out, HR.out, rfl⟩, fun k a => .inl a⟩)
     clear hin
     go_wp2
     go_ret
     exact ⟨rfl, HEND.out⟩
def ScEnd (S : Nat -> Prop) (B t u : Nat) (TM : Nat -> Tp.Pst -> World -> Prop) (root : Int) (r : Nat) (σ : Tp.Pst) (l : List Ent) (w : World) (e : Ending) (w' : World) : Prop :=
 ∃ A c, e = .returned (.tuple #[.slice A l.length c, .int .i64 0]) /\ LO entE 38 w' w.heap.size (.slice A l.length c) l /\ On S B t u TM root 0 r σ w' /\ Fr S w w'
theorem scan_any (M : Mach S B t room disk TM) (u : Nat) (root : Int) (frm hi_ : ByteArray) (σ : Tp.Pst) (l : List Ent) (b : Bool) (r : Nat) (w : World) (hN : Tp.cost Tp.en disk σ 24 root <= 1000000) (h0 : root = 0 -> l = []) (h1 : root ≠ 0 -> Tp.pVisit disk σ frm (Tp.ystep (scanS hi_)) 24 root [] = (l, .ok b)) (h : On S B t u TM root 0 (r + Tp.cost Tp.rd disk σ 24 root) σ w) :
   Calls Tryz.prog 16 #[.pointer (some ⟨u, 0, none⟩), .string frm, .string hi_] w (ScEnd S B t u TM root r σ l w) := by
 have hsz := M.size h.tm
 have hun : u < w.heap.size := h.self.lt
 have hb1 := (Below.refl w.heap.size w).alloc (Nat.le_refl _) (.cells #[.string hi_] 9)
 have hb2 := hb1.alloc hb1.size (.cells #[.slice none 0 0] 32)
 have hon := (h.below M hb1).below M (Below.alloc (Below.refl _ _) (Nat.le_refl _) (.cells #[.slice none 0 0] 32))
 have hBk := (Blk.new w 9 #[.string hi_]).alloc (.cells #[.slice none 0 0] 32)
 have hBv := Blk.new (w.alloc (.cells #[.string hi_] 9)) 32 #[.slice none 0 0]
 simp only [World.size_alloc] at hBv
 have hP : ScanP w.heap.size (w.heap.size + 1) hi_ (0 + Tp.cost Tp.en disk σ 24 root) [] (fun k => k = w.heap.size + 1 \/ (Value.slice none 0 0).ownBlock = some k) ((w.alloc (.cells #[.string hi_] 9)).alloc (.cells #[.slice none 0 0] 32)) := ⟨by simpa using hN, hBk, none, 0, hBv, LO.nil_ _ _, rfl⟩
 have HCALL := Lib.hid (each_any M u root (scan_do M u root hi_ (show B <= w.heap.size from hsz) (Nat.lt_succ_self _) hun) frm σ 0 [] l b _ r _ h0 h1 hP hon)
 have k0 : ((w.alloc (.cells #[.string hi_] 9)).alloc (.cells #[.slice none 0 0] 32)).cell? ⟨w.heap.size, 0, none⟩ = some (.string hi_) := hBk.cell 0
 have kl := hBk.lt
 have v0 : ((w.alloc (.cells #[.string hi_] 9)).alloc (.cells #[.slice none 0 0] 32)).cell? ⟨w.heap.size + 1, 0, none⟩ = some (.slice none 0 0) := hBv.cell 0
 have vl := hBv.lt
 have HB := Lib.hid hb2
 have HY : Hid (∀ k, (k = w.heap.size + 1 \/ (Value.slice none 0 0).ownBlock = some k) -> w.heap.size <= k) := Lib.hid (fun k a => by
   rcases a with a | a
   · omega
   · simp [Value.ownBlock] at a)
 have HM := Lib.hid M
 clear hb1 hb2 hon hBk hBv hP h M h0 h1 hN
 go_enter Tryz.func16, Tryz.ntmps16
 go_wp2_with fail
 refine Calls.mono HCALL.out ?_
 rintro e w2 ⟨rfl, hon2, hf2, Y2, ⟨_, hT2, A, c, hL2, hR2, _⟩, _⟩
 have hF : Fr S w w2 := (Fr.of_below (S := S) HB.out).go hf2 (fun k a => a.imp id (HY.out k))
 have g0 : w2.cell? ⟨w.heap.size + 1, 0, none⟩ = some (.slice A l.length c) := hL2.cell 0
 have gl := hL2.lt
 have HEND := Lib.hid (show ScEnd S B t u TM root r σ l w (.returned (.tuple #[.slice A l.length c, .int .i64 0])) w2 from ⟨A, c, rfl, hR2.lower (by omega), hon2, hF⟩)
 clear hon2 hf2 hT2 hL2 hR2 hF
 go_wp2
 go_ret2
 exact HEND.out
end
section
variable {S : Nat -> Prop} {B t : Nat} {room : Int} {disk : Tp.Disk} {TM : Nat -> Tp.Pst -> World -> Prop}
theorem troot_any (u : Nat) (root e0 : Int) (w : World) (h : Blk w u 84 (TreeV t root e0)) :
   Calls Tryz.prog 28 #[.pointer (some ⟨u, 0, none⟩)] w fun e w' => e = .returned (.int .i64 root) /\ w' = w := by
 have k : w.cell? ⟨u, 1, none⟩ = some (.int .i64 root) := h.cell 1
 have l := h.lt
 clear h
 go_enter Tryz.func28, Tryz.ntmps28
 go_wp2
 go_ret
 exact ⟨rfl, rfl⟩
theorem terr_any (u : Nat) (root e0 : Int) (w : World) (h : Blk w u 84 (TreeV t root e0)) :
   Calls Tryz.prog 26 #[.pointer (some ⟨u, 0, none⟩)] w fun e w' => e = .returned (.int .i64 e0) /\ w' = w := by
 have k : w.cell? ⟨u, 2, none⟩ = some (.int .i64 e0) := h.cell 2
 have l := h.lt
 clear h
 go_enter Tryz.func26, Tryz.ntmps26
 go_wp2
 go_ret
 exact ⟨rfl, rfl⟩
theorem ctnew_any (M : Mach S B t room disk TM) (root : Int) (r : Nat) (σ : Tp.Pst) (w : World) (h : TM r σ w) :
   Calls Tryz.prog 33 #[.pointer (some ⟨t, 0, none⟩), .int .i64 root] w fun e w' => ∃ u, e = .returned (.pointer (some ⟨u, 0, none⟩)) /\ On S B t u TM root 0 r σ w' /\ w.heap.size <= u /\ Below w.heap.size w w' := by
 have HFIN : Hid (∀ u w', Below w.heap.size w w' -> Blk w' u 84 (TreeV t root 0) -> w.heap.size <= u -> On S B t u TM root 0 r σ w') := Lib.hid fun u w' hb hB hu => ⟨M.below h hb, hB, Nat.le_trans (M.size h) hu⟩
 have hbA := Lib.hid ((Below.refl w.heap.size w).alloc (Nat.le_refl _) (.cells #[.pointer (some ⟨t, 0, none⟩), .int .i64 root, .int .i64 0] 84))
 clear M h
 go_enter Tryz.func33, Tryz.ntmps33
 go_wp2
 go_ret
 exact ⟨_, rfl, HFIN.out _ _ hbA.out (Blk.new w _ _) (Nat.le_refl _), Nat.le_refl _, hbA.out⟩
end
def nextS (_ : Ent × Bool) (x : Ent) : (Ent × Bool) × Bool := ((x, true), false)
def NextP (gf gk : Nat) (_ : Nat) (q : Ent × Bool) (Y : Nat -> Prop) (w : World) : Prop :=
 Blk w gf 38 #[.string q.1.1, .string q.1.2] /\ Blk w gk 4 #[.bool q.2] /\ Y = fun k => k = gf \/ k = gk
theorem ent_struct : StructT 38 2 := ⟨_, Tryz.underlying38, by kernel_rfl⟩
section
variable {a : Act} {o : Oper} {x y : Operand} {w : World} {R : Value -> World -> Prop}
theorem does_store_ent {g : Nat} {s1 s2 : ByteArray} {d0 d1 : Value} (ho : o.op = .store 38 x y) (hx : a.eval x = .pointer (some ⟨g, 0, none⟩)) (hy : a.eval y = .agg #[.string s1, .string s2]) (hB : Blk w g 38 #[d0, d1]) (hR : ∀ w', Blk w' g 38 #[.string s1, .string s2] -> Fr (fun k => k = g) w w' -> R undef w') : Does o a w R := by
 have key : ∃ w', (execOp a.eval o).run Tryz.prog w = .ok .skip w' /\ Blk w' g 38 #[.string s1, .string s2] /\ Fr (fun k => k = g) w w' := by
   have k0 := hB.cell 0
   have k1 := hB.cell 1
   have f0 := hB.frozen 0
   have f1 := hB.frozen 1
   refine ⟨_, ?_, hB.put2 (.string s1) (.string s2), Fr.put2 _ _⟩
   unfold execOp
   simp only [ho, hx, hy]
   simp [go_sem, k0, k1, f0, f1]
 obtain ⟨w', hr, h1, h2⟩ := key
 exact Does.skip hr (hR w' h1 h2)
end
section
variable {fn : Func} {p u v : Tmp} {ty : TypeId} {tmps : Array Value} {w : World} {g n : Nat} {cs : Array Value}
theorem res_cell_tmp_tmp (hT : StructT ty n) (h : fn.results = #[.cell p ty, .tmp u, .tmp v]) (hp : tmps.getD p undef = .pointer (some ⟨g, 0, none⟩)) (hB : Blk w g ty cs) (hn : cs.size = n) : (results fn tmps).run Tryz.prog w = .ok (.tuple #[.agg cs, tmps.getD u undef, tmps.getD v undef]) w := by
 have hp' : tmps[p]?.getD undef = .pointer (some ⟨g, 0, none⟩) := by simpa using hp
 simp only [results, h]
 simp [hp', asAddr, loadVar_blk hT hB hn]
end
section
variable {S : Nat -> Prop} {B t : Nat} {room : Int} {disk : Tp.Disk} {TM : Nat -> Tp.Pst -> World -> Prop}
theorem next_do (M : Mach S B t room disk TM) (u : Nat) (root : Int) {gf gk : Nat} (hgf : B <= gf) (hne : gf < gk) (hul : u < gf) :
   EntFn S B t u TM root 46 #[.pointer (some ⟨gf, 0, none⟩), .pointer (some ⟨gk, 0, none⟩)] nextS (NextP gf gk) where
 keep := fun ⟨h1, h2, h3⟩ hf => ⟨hf.blk h1 (M.far hgf), hf.blk h2 (M.far (by omega)), h3⟩
 less := fun h _ => h
 lt := fun ⟨h1, h2, h3⟩ hy => by
   subst h3
   rcases hy with rfl | rfl
   · exact h1.lt
   · exact h2.lt
 enters := fun args w => by kernel_rfl
 call := fun w x m q Y r σ hP hon => by
   obtain ⟨h1, h2, rfl⟩ := hP
   have k1 : w.cell? ⟨gf, 0, none⟩ = some (.string q.1.1) := h1.cell 0
   have k1' : w.cell? ⟨gf, 1, none⟩ = some (.string q.1.2) := h1.cell 1
   have k2 : w.cell? ⟨gk, 0, none⟩ = some (.bool q.2) := h2.cell 0
   have f1 := h1.frozen 0
   have f1' := h1.frozen 1
   have f2 := h2.frozen 0
   have l1 := h1.lt
   have l2 := h2.lt
   have n1 : gf ≠ gk := by omega
   have n2 : gk ≠ gf := by omega
   have HEND : Hid (On S B t u TM root 0 r σ ((((w.setCell ⟨gf, 0, none⟩ (.string x.1)).setCell ⟨gf, 1, none⟩ (.string x.2)).setCell ⟨gk, 0, none⟩ (.bool true)).alloc (.cells #[.string x.1, .string x.2] 38)) /\ Fr (fun k => k = gf \/ k = gk) w ((((w.setCell ⟨gf, 0, none⟩ (.string x.1)).setCell ⟨gf, 1, none⟩ (.string x.2)).setCell ⟨gk, 0, none⟩ (.bool true)).alloc (.cells #[.string x.1, .string x.2] 38)) /\ ∃ Y', NextP gf gk m (x, true) Y' ((((w.setCell ⟨gf, 0, none⟩ (.string x.1)).setCell ⟨gf, 1, none⟩ (.string x.2)).setCell ⟨gk, 0, none⟩ (.bool true)).alloc (.cells #[.string x.1, .string x.2] 38)) /\ ∀ k, Y' k -> (k = gf \/ k = gk) \/ w.heap.size <= k) := by
     refine Lib.hid ?_
     have s1 : ∀ (W : World) (i : Nat) (v : Value), Fr (fun k => k = gf) W (W.setCell ⟨gf, i, none⟩ v) := fun W i v => Fr.set_ (S := fun k => k = gf) rfl v
     have s2 : ∀ (W : World) (i : Nat) (v : Value), Fr (fun k => k = gk) W (W.setCell ⟨gk, i, none⟩ v) := fun W i v => Fr.set_ (S := fun k => k = gk) rfl v
     have o1 := hon.own M (s1 _ 0 (.string x.1)) h1 hgf (by omega) (by decide) (by decide) (by decide) (by decide)
     have c1 := h1.set_ 0 (.string x.1)
     have o2 := o1.own M (s1 _ 1 (.string x.2)) c1 hgf (by omega) (by decide) (by decide) (by decide) (by decide)
     have c2 := c1.set_ 1 (.string x.2)
     have d2 := (s1 _ 1 (.string x.2)).blk ((s1 _ 0 (.string x.1)).blk h2 (by omega)) (by omega)
     have o3 := o2.own M (s2 _ 0 (.bool true)) d2 (by omega) (by omega) (by decide) (by decide) (by decide) (by decide)
     have d3 := d2.set_ 0 (.bool true)
     have c3 := (s2 _ 0 (.bool true)).blk c2 (by omega)
     have hF3 : Fr (fun k => k = gf \/ k = gk) w (((w.setCell ⟨gf, 0, none⟩ (.string x.1)).setCell ⟨gf, 1, none⟩ (.string x.2)).setCell ⟨gk, 0, none⟩ (.bool true)) := (((s1 _ _ _).more fun _ => .inl).trans ((s1 _ _ _).more fun _ => .inl)).trans ((s2 _ _ _).more fun _ => .inr)
     generalize ((w.setCell ⟨gf, 0, none⟩ (.string x.1)).setCell ⟨gf, 1, none⟩ (.string x.2)).setCell ⟨gk, 0, none⟩ (.bool true) = W3 at *
     have hbx := (Below.refl W3.heap.size W3).alloc (Nat.le_refl _) (.cells #[.string x.1, .string x.2] 38)
     exact ⟨o3.below M hbx, hF3.trans (.of_below hbx), _, ⟨c3.below hbx c3.lt, d3.below hbx d3.lt, rfl⟩, fun k a => .inl a⟩
   clear h1 h2 hon M
   show Calls Tryz.prog 46 #[.agg #[.string x.1, .string x.2], .pointer (some ⟨gf, 0, none⟩), .pointer (some ⟨gk, 0, none⟩)] w _
   go_enter Tryz.func46, Tryz.ntmps46
   go_wp2
   go_ret
   exact ⟨rfl, HEND.out⟩
def NxEnd (S : Nat -> Prop) (B t u : Nat) (TM : Nat -> Tp.Pst -> World -> Prop) (root : Int) (r : Nat) (σ : Tp.Pst) (q : Ent × Bool) (w : World) (e : Ending) (w' : World) : Prop :=
 e = .returned (.tuple #[.agg #[.string q.1.1, .string q.1.2], .bool q.2, .int .i64 0]) /\ On S B t u TM root 0 r σ w' /\ Fr S w w'
theorem next_any (M : Mach S B t room disk TM) (u : Nat) (root : Int) (frm : ByteArray) (σ : Tp.Pst) (q : Ent × Bool) (b : Bool) (r : Nat) (w : World) (h0 : root = 0 -> q = ((⟨#[]⟩, ⟨#[]⟩), false)) (h1 : root ≠ 0 -> Tp.pVisit disk σ frm (Tp.ystep nextS) 24 root ((⟨#[]⟩, ⟨#[]⟩), false) = (q, .ok b)) (h : On S B t u TM root 0 (r + Tp.cost Tp.rd disk σ 24 root) σ w) :
   Calls Tryz.prog 19 #[.pointer (some ⟨u, 0, none⟩), .string frm] w (NxEnd S B t u TM root r σ q w) := by
 have hsz := M.size h.tm
 have hun : u < w.heap.size := h.self.lt
 have hb1 := (Below.refl w.heap.size w).alloc (Nat.le_refl _) (.cells #[.string ⟨#[]⟩, .string ⟨#[]⟩] 38)
 have hb2 := hb1.alloc hb1.size (.cells #[.string ⟨#[]⟩, .string ⟨#[]⟩] 38)
 have hb3 := hb2.alloc hb2.size (.cells #[.bool false] 4)
 have hon := h.below M hb3
 have hB0 := ((Blk.new w 38 #[.string ⟨#[]⟩, .string ⟨#[]⟩]).alloc (.cells #[.string ⟨#[]⟩, .string ⟨#[]⟩] 38)).alloc (.cells #[.bool false] 4)
 have hB1 := (Blk.new (w.alloc (.cells #[.string ⟨#[]⟩, .string ⟨#[]⟩] 38)) 38 #[.string ⟨#[]⟩, .string ⟨#[]⟩]).alloc (.cells #[.bool false] 4)
 have hB2 := Blk.new ((w.alloc (.cells #[.string ⟨#[]⟩, .string ⟨#[]⟩] 38)).alloc (.cells #[.string ⟨#[]⟩, .string ⟨#[]⟩] 38)) 4 #[.bool false]
 simp only [World.size_alloc] at hB1 hB2
 have hP : NextP (w.heap.size + 1) (w.heap.size + 1 + 1) (0 + Tp.cost Tp.en disk σ 24 root) ((⟨#[]⟩, ⟨#[]⟩), false) (fun k => k = w.heap.size + 1 \/ k = w.heap.size + 1 + 1) (((w.alloc (.cells #[.string ⟨#[]⟩, .string ⟨#[]⟩] 38)).alloc (.cells #[.string ⟨#[]⟩, .string ⟨#[]⟩] 38)).alloc (.cells #[.bool false] 4)) := ⟨hB1, hB2, rfl⟩
 have HCALL := Lib.hid (each_any M u root (next_do M u root (show B <= w.heap.size + 1 by omega) (Nat.lt_succ_self _) (show u < w.heap.size + 1 by omega)) frm σ 0 ((⟨#[]⟩, ⟨#[]⟩), false) q b _ r _ h0 h1 hP hon)
 have HB0 := Lib.hid hB0
 have HB := Lib.hid hb3
 have HM := Lib.hid M
 clear hb1 hb2 hb3 hon hB0 hB1 hB2 hP h M h0 h1
 go_enter Tryz.func19, Tryz.ntmps19
 go_wp2_with fail
 refine Calls.mono HCALL.out ?_
 rintro e w2 ⟨rfl, hon2, hf2, Y2, ⟨hF2, hK2, _⟩, _⟩
 have hF : Fr S w w2 := (Fr.of_below (S := S) HB.out).go hf2 (fun k a => a.imp id (fun c => by omega))
 have hR2 := hf2.blk HB0.out (fun a => by
   rcases a with a | a | a
   · exact HM.out.far hsz a
   · omega
   · omega)
 have HF := Lib.hid hF
 have HON := Lib.hid hon2
 have HR2 := Lib.hid hR2
 have HF2 := Lib.hid hF2
 have HK2 := Lib.hid hK2
 clear hon2 hf2 hF hR2 hF2 hK2
 go_wp2_with fail
 have hrl := HR2.out.lt
 refine wp_region_flow (base := w2.heap.size) (fun uu => ⟨#[_, _, _, _, _, uu 3, uu 4, _, _, _, _, _, _, _, _, _, _, _, uu 0, uu 1], _⟩)
   [Is.eq _ (.agg #[.string q.1.1, .string q.1.2]), Is.eq _ (.bool q.2), Is.turn _ w.heap.size 38 undef #[.string q.1.1, .string q.1.2], Is.eq _ (.bool q.2), Is.eq _ (.int .i64 0)]
   (by kernel_rfl) (by kernel_rfl) (by kernel_rfl) [w.heap.size] rfl (Nat.le_refl _) (by simpa using hrl) (by simp) ⟨fun k => if k = 3 then .bool false else if k = 4 then .int .i64 0 else undef, rfl⟩ ?_ ?_
 · intro k o ho uu W hf hold hdep
   have hS : ∀ k, k ∈ [w.heap.size] -> k = w.heap.size := fun k hk => by simpa using hk
   have hBF := hf.blk HF2.out (fun a => by have := hS _ a; omega)
   have hBK := hf.blk HK2.out (fun a => by have := hS _ a; omega)
   match k, ho with
   | 0, ho => obtain rfl := Option.some.inj ho; exact Does.val (op_ld_row ent_struct rfl rfl hBF rfl) ⟨rfl, rfl, Fr.refl _⟩
   | 1, ho => obtain rfl := Option.some.inj ho; exact Does.val (op_ldbool rfl rfl (hBK.cell 0)) ⟨rfl, rfl, Fr.refl _⟩
   | 2, ho =>
     obtain rfl := Option.some.inj ho
     refine does_store_ent rfl rfl (hdep 0 rfl) (Eq.trans (hold _ rfl) HR2.out) fun w' hB hfr => ?_
     exact ⟨rfl, ⟨rfl, hB⟩, hfr.more (fun k hk => by rw [hk]; rfl)⟩
   | 3, ho => obtain rfl := Option.some.inj ho; exact Does.val (op_as rfl (hdep 1 rfl)) ⟨rfl, rfl, Fr.refl _⟩
   | 4, ho => obtain rfl := Option.some.inj ho; exact Does.val (op_as rfl rfl) ⟨rfl, rfl, Fr.refl _⟩
   | n + 5, ho => exact absurd ho (by simp)
 · intro uu W hf hall
   obtain ⟨_, hBW⟩ := hall 2 (by decide)
   have e3 : uu 3 = .bool q.2 := hall 3 (by decide)
   have e4 : uu 4 = .int .i64 0 := hall 4 (by decide)
   simp only [e3, e4]
   have hS : ∀ k, k ∈ [w.heap.size] -> k = w.heap.size := fun k hk => by simpa using hk
   have hf' : Fr (fun k => k = w.heap.size) w2 W := hf.more hS
   have HEND := Lib.hid (show NxEnd S B t u TM root r σ q w (.returned (.tuple #[.agg #[.string q.1.1, .string q.1.2], .bool q.2, .int .i64 0])) W from ⟨rfl, HON.out.own HM.out hf' HR2.out hsz (by omega) (by decide) (by decide) (by decide) (by decide), HF.out.go hf' (fun k hk => .inr (by omega))⟩)
   have HBW := Lib.hid hBW
   clear hall hf hf' hBW
   go_wp2
   try simp only [Exit.inBlock, Exit.then]
   refine bodyPost_ret (res_cell_tmp_tmp ent_struct rfl rfl HBW.out rfl) rfl ?_
   exact HEND.out
end
def Tp.none_ : Tp.Pst := ⟨[], 2, [], fun _ => none⟩
theorem tmf_start {B t m f n r : Nat} {w : World} (hn : n <= 16384) (ht : t < B) (hm : m < B) (hB : B <= w.heap.size) (h : Txn w t m f n (Rp.meet [] [(2, pagesN 2 n - 1)]) (pagesN 2 n) 0 (.map [])) : TMf B t m f n r Tp.none_ w := by
 have hp : pagesN 2 n = 2 := by unfold pagesN; omega
 rw [hp] at h
 have h1 := Rp.Ap.start (p := 2) (room := max (n : Int) 2) [] (by omega)
 have e1 : Rp.meet [] [(2, (2 : Int) - 1)] = [] := by decide
 have e2 : Rp.minus [(2, (2 : Int) - 1)] [] = [] := by decide
 rw [e1] at h
 rw [e1, e2] at h1
 exact ⟨⟨ht, hm, hB⟩, h1, fun id hi => absurd hi (by simp [Tp.none_]), .map [], h, KeysAre.nil_, fun id hi => absurd hi (by simp [Tp.none_])⟩
def NewEnd (n r : Nat) (w : World) (e : Ending) (w' : World) : Prop := ∃ B t m f u, e = .returned (.pointer (some ⟨u, 0, none⟩)) /\ t < B /\ m < B /\ w.heap.size <= t /\ w.heap.size <= m /\ w.heap.size <= B /\ On (fun k => k = t \/ k = m) B t u (TMf B t m f n) 0 0 r Tp.none_ w' /\ Below w.heap.size w w'
theorem tree_any (k : Int) (r : Nat) (w : World) : Calls Tryz.prog 13 #[.int .i64 k] w (NewEnd (diskN k) r w) := by
 have hD := hid_calls (dnew_of k w)
 have hn : diskN k <= 16384 := by unfold diskN; omega
 generalize diskN k = n at *
 have HN := Lib.hid hn
 clear hn
 go_enter Tryz.func13, Tryz.ntmps13
 go_wp2_with fail
 refine hD.out.mono ?_
 rintro e w1 ⟨d, rfl, hd, hb1⟩
 have HF := Lib.hid (fnew_any d n w1 hd)
 have HB1 := Lib.hid hb1
 clear hd hb1
 go_wp2_with fail
 refine HF.out.mono ?_
 rintro e w2 ⟨f, rfl, hf, hb2⟩
 have HA := Lib.hid (tnew_any f n none 0 [] 2 HN.out w2 hf RS.nil_ (Nat.zero_le _))
 have HB2 := Lib.hid (HB1.out.trans (hb2.mono HB1.out.size))
 clear hf hb2
 go_wp2_with fail
 refine Calls.mono HA.out ?_
 rintro e w3 ⟨t, m, rfl, htm, hT, hb3⟩
 have hB3 := HB2.out.trans (hb3.mono HB2.out.size)
 have htl : t < w3.heap.size := by obtain ⟨_, ⟨v, h2, _⟩, _⟩ := hT; exact h2.lt
 have hml : m < w3.heap.size := by obtain ⟨_, _, es, c, h2, _⟩ := hT; exact (Array.getElem?_eq_some_iff.1 h2).1
 have HC := Lib.hid (ctnew_any (mach_fresh htl hml f n) 0 r Tp.none_ w3 (tmf_start HN.out htl hml (Nat.le_refl _) hT))
 have HEND := Lib.hid (show ∀ u w4, On (fun k => k = t \/ k = m) w3.heap.size t u (TMf w3.heap.size t m f n) 0 0 r Tp.none_ w4 -> Below w3.heap.size w3 w4 -> NewEnd n r w (.returned (.pointer (some ⟨u, 0, none⟩))) w4 from fun u w4 ho hb => ⟨_, t, m, f, u, rfl, htl, hml, Nat.le_trans HB2.out.size htm.1, Nat.le_trans HB2.out.size htm.2, hB3.size, ho, hB3.trans (hb.mono hB3.size)⟩)
 clear hT hb3 hB3 htm htl hml
 go_wp2_with fail
 refine HC.out.mono ?_
 rintro e w4 ⟨u, rfl, ho, _, hb⟩
 have HE := Lib.hid (HEND.out u w4 ho hb)
 clear ho hb
 go_wp2
 go_ret
 exact HE.out
abbrev TAct := Int × ByteArray × ByteArray
def tactE : Enc TAct := ⟨fun x => [.int .i64 x.1, .string x.2.1, .string x.2.2], 3, fun _ => rfl, by decide, fun x u hu => by simp at hu; rcases hu with rfl | rfl | rfl <;> rfl⟩
theorem LS.tact {w : World} {B : Nat} {A : Option Addr} {l : List TAct} (h : LS tactE w B A l) {k : Nat} (hk : k < l.length) : ∃ b off, A = some ⟨b, off, none⟩ /\ b < B /\ w.cell? ⟨b, off + k * 3, none⟩ = some (.int .i64 l[k].1) /\ w.cell? ⟨b, off + k * 3 + 1, none⟩ = some (.string l[k].2.1) /\ w.cell? ⟨b, off + k * 3 + 2, none⟩ = some (.string l[k].2.2) := by
 obtain ⟨b, off, rfl, hb, hc⟩ := h.at_ hk
 exact ⟨b, off, rfl, hb, hc 0 (by decide), hc 1 (by decide), hc 2 (by decide)⟩
def wideT (x : TAct) : Bool := decide (60 < x.2.1.size) || decide (60 < x.2.2.size)
def overT (l : List TAct) : Bool := decide (200 < l.length) || l.any wideT
theorem over_any (A : Option Addr) (c : Nat) (l : List TAct) (w : World) (hr : LS tactE w w.heap.size A l) :
   Calls Tryz.prog 12 #[.slice A l.length c] w fun e w' => e = .returned (.bool (overT l)) /\ w' = w := by
 by_cases hn : 200 < l.length
 · have hq : overT l = true := by unfold overT; rw [decide_eq_true hn]; rfl
   rw [hq]
   have h1 : (200 : Int) < (l.length : Nat) := by omega
   clear hr hq
   go_enter Tryz.func12, Tryz.ntmps12
   go_wp2
   go_ret
   exact ⟨rfl, rfl⟩
 · have hq : overT l = l.any wideT := by unfold overT; rw [decide_eq_false hn]; rfl
   rw [hq]
   have h1 : ¬ (200 : Int) < (l.length : Nat) := by omega
   have HR := Lib.hid hr
   clear hr hq
   go_enter Tryz.func12, Tryz.ntmps12
   go_wp2
   go_loopg [3] l.length (fun g s3 wr => ∃ k : Nat, s3 = .int .i64 (k : Nat) /\ k <= l.length /\ l.length - k <= g /\ Hid (l.any wideT = (l.drop k).any wideT) /\ wr = w)
   case atStart => exact ⟨0, rfl, Nat.zero_le _, by omega, Lib.hid rfl, rfl⟩
   case round =>
     obtain ⟨k, rfl, hkl, hkg, HK, rfl⟩ := hrel
     by_cases hk : k < l.length
     · obtain ⟨b, off, rfl, hb, c0, c1, c2⟩ := HR.out.tact hk
       have hst := HK.out
       rw [List.drop_eq_getElem_cons hk, List.any_cons] at hst
       have hki : (k : Int) < (l.length : Nat) := by omega
       have hwk : IntKind.i64.wrap ((k : Int) + 1) = (k : Int) + 1 := IntWalk.i64_in _ (by omega)
       have HST := Lib.hid hst
       clear hst
       generalize l[k] = x at *
       by_cases w1 : 60 < x.2.1.size
       · have d1 : (60 : Int) < (x.2.1.size : Nat) := by omega
         have HE := Lib.hid (show l.any wideT = true by rw [HST.out]; simp [wideT, w1])
         go_wp2
         go_ret
         exact ⟨by rw [HE.out]; rfl, rfl⟩
       · have d1 : ¬ (60 : Int) < (x.2.1.size : Nat) := by omega
         by_cases w2 : 60 < x.2.2.size
         · have d2 : (60 : Int) < (x.2.2.size : Nat) := by omega
           have HE := Lib.hid (show l.any wideT = true by rw [HST.out]; simp [wideT, w2])
           go_wp2
           go_ret
           exact ⟨by rw [HE.out]; rfl, rfl⟩
         · have d2 : ¬ (60 : Int) < (x.2.2.size : Nat) := by omega
           have HE := Lib.hid (show l.any wideT = (l.drop (k + 1)).any wideT by rw [HST.out]; simp [wideT, w1, w2])
           go_wp2
           go_roundg (l.length - (k + 1))
           case measure => omega
           case rel => exact ⟨k + 1, by go_num, by omega, Nat.le_refl _, HE, rfl⟩
     · have hki : ¬ (k : Int) < (l.length : Nat) := by omega
       obtain rfl : k = l.length := by omega
       have HE := Lib.hid (show l.any wideT = false by rw [HK.out, List.drop_of_length_le (Nat.le_refl _)]; rfl)
       go_wp2
       go_ret
       exact ⟨by rw [HE.out]; rfl, rfl⟩
structure RawPg where
 id : Int
 depth : Nat
 leaf : Bool
 ae : Option Addr
 ne : Nat
 ce : Nat
 ai : Option Addr
 ni : Nat
 ci : Nat
 ay : Option Addr
 ny : Nat
 cy : Nat
def RawPg.cells (x : RawPg) : List Value := [.int .i64 x.id, .int .i64 (x.depth : Nat), .bool x.leaf, .slice x.ae x.ne x.ce, .slice x.ai x.ni x.ci, .slice x.ay x.ny x.cy]
def pgE : Enc RawPg := ⟨RawPg.cells, 6, fun _ => rfl, by decide, fun x u hu => by simp [RawPg.cells] at hu; rcases hu with rfl | rfl | rfl | rfl | rfl | rfl <;> rfl⟩
theorem eiPg : EI Tryz.prog 60 (.agg #[.int .i64 0, .int .i64 0, .bool false, .slice none 0 0, .slice none 0 0, .slice none 0 0]) 6 96 := EI.mk (by kernel_rfl)
def PgAt (lo : Nat) (w : World) (x : RawPg) (p : Int × Nat × Nd.Node) : Prop := x.id = p.1 /\ x.depth = p.2.1 /\ NF lo w (nodeV x.leaf x.ae x.ne x.ce x.ai x.ni x.ci x.ay x.ny x.cy) p.2.2
def PgsAt (lo : Nat) (w : World) (xs : List RawPg) (l : List (Int × Nat × Nd.Node)) : Prop := xs.length = l.length /\ ∀ (j : Nat) (h1 : j < xs.length) (h2 : j < l.length), PgAt lo w xs[j] l[j]
section
variable {S : Nat -> Prop} {lo lo' : Nat} {w w' : World} {xs : List RawPg} {l : List (Int × Nat × Nd.Node)}
theorem PgsAt.nil_ (lo : Nat) (w : World) : PgsAt lo w [] [] := ⟨rfl, fun j h => absurd h (by simp)⟩
theorem PgsAt.fr (h : PgsAt lo w xs l) (hf : Fr S w w') (hS : ∀ k, S k -> k < lo) : PgsAt lo w' xs l := ⟨h.1, fun j h1 h2 => ⟨(h.2 j h1 h2).1, (h.2 j h1 h2).2.1, (h.2 j h1 h2).2.2.fr hf hS⟩⟩
theorem PgsAt.snoc (h : PgsAt lo w xs l) {x : RawPg} {p : Int × Nat × Nd.Node} (hp : PgAt lo w x p) : PgsAt lo w (xs ++ [x]) (l ++ [p]) := by
 refine ⟨by simp [h.1], fun j h1 h2 => ?_⟩
 have he := h.1
 by_cases hj : j < xs.length
 · rw [List.getElem_append_left hj, List.getElem_append_left (by omega)]
   exact h.2 j hj (by omega)
 · rw [List.length_append, List.length_singleton] at h1
   obtain rfl : j = xs.length := by omega
   rw [List.getElem_append_right (Nat.le_refl _), List.getElem_append_right (by omega)]
   simpa [he] using hp
end
theorem NF.row2 {lo b s n0 : Nat} {w w' : World} {v v2 : Value} {n : Nd.Node} {xs : List Value} (h : NF lo w v n) (ho : w.ownsRow b 60 s v2 n0 xs) (hg : w.grownBy w' v2.ownBlock) : NF lo w' v n := by
 obtain ⟨Ae, ce, Ai, ci, Ay, cy, e, h1, h2, h3⟩ := h
 exact ⟨Ae, ce, Ai, ci, Ay, cy, e, h1.row2 ho (by decide) hg, h2.row2 ho (by decide) hg, h3.row2 ho (by decide) hg⟩
theorem PgsAt.row2 {lo b s n0 : Nat} {w w' : World} {v2 : Value} {ys : List RawPg} {l : List (Int × Nat × Nd.Node)} {xs : List Value} (h : PgsAt lo w ys l) (ho : w.ownsRow b 60 s v2 n0 xs) (hg : w.grownBy w' v2.ownBlock) : PgsAt lo w' ys l := ⟨h.1, fun j h1 h2 => ⟨(h.2 j h1 h2).1, (h.2 j h1 h2).2.1, (h.2 j h1 h2).2.2.row2 ho hg⟩⟩
theorem walk_view {disk : Tp.Disk} {σ : Tp.Pst} {f : Nat} {l l' : List (Int × Nat × Nd.Node)} {id : Int} (h : Tp.pWalk disk σ f l id = (l', 0)) : ∃ f' n, f = f' + 1 /\ σ.view disk id = some n /\ Tp.pWalkKids (Tp.pWalk disk σ f') n.kids (l ++ [(id, 24 - (f' + 1), n)]) = (l', 0) := by
 cases f with
 | zero => rw [Tp.pWalk] at h; simp at h
 | succ f =>
   rw [Tp.pWalk] at h
   cases hv : σ.view disk id with
   | none => rw [hv] at h; simp at h
   | some n => rw [hv] at h; exact ⟨f, n, rfl, rfl, h⟩
theorem walkKids_at {wk : List (Int × Nat × Nd.Node) -> Int -> List (Int × Nat × Nd.Node) × Int} {ks : List Int} {j : Nat} (hj : j < ks.length) {l l' : List (Int × Nat × Nd.Node)} (h : Tp.pWalkKids wk (ks.drop j) l = (l', 0)) : ∃ l1, wk l ks[j] = (l1, 0) /\ Tp.pWalkKids wk (ks.drop (j + 1)) l1 = (l', 0) := by
 rw [List.drop_eq_getElem_cons hj, Tp.pWalkKids] at h
 generalize hx : wk l ks[j] = x at h
 obtain ⟨l1, e⟩ := x
 by_cases he : e = 0
 · subst he; exact ⟨l1, rfl, h⟩
 · exfalso
   split at h
   · rename_i heq; exact he (by injection heq)
   · injection h with _ h; exact he (by simp_all)
theorem walkKids_len {wk : List (Int × Nat × Nd.Node) -> Int -> List (Int × Nat × Nd.Node) × Int} (hw : ∀ l id, l.length <= (wk l id).1.length) : ∀ (ks : List Int) (l : List (Int × Nat × Nd.Node)), l.length <= (Tp.pWalkKids wk ks l).1.length
 | [], l => Nat.le_refl _
 | k :: ks, l => by
   rw [Tp.pWalkKids]
   have h := hw l k
   split
   · rename_i l1 he
     rw [he] at h
     exact Nat.le_trans h (walkKids_len hw ks l1)
   · rename_i l1 e he _
     rw [‹wk l k = _›] at h
     exact h
theorem walk_len (disk : Tp.Disk) (σ : Tp.Pst) : ∀ (f : Nat) (l : List (Int × Nat × Nd.Node)) (id : Int), l.length <= (Tp.pWalk disk σ f l id).1.length
 | 0, l, id => Nat.le_refl _
 | f + 1, l, id => by
   rw [Tp.pWalk]
   split
   · exact Nat.le_refl _
   · have := walkKids_len (walk_len disk σ f) ‹Nd.Node›.kids (l ++ [(id, 24 - (f + 1), ‹Nd.Node›)])
     rw [List.length_append] at this
     omega
def WkEnd (S : Nat -> Prop) (B t u : Nat) (TM : Nat -> Tp.Pst -> World -> Prop) (root : Int) (r : Nat) (σ : Tp.Pst) (lo : Nat) (own : Option Nat) (l' : List (Int × Nat × Nd.Node)) (w : World) (e : Ending) (w' : World) : Prop :=
 ∃ A' c' xs', e = .returned (.tuple #[.slice A' xs'.length c', .int .i64 0]) /\ LO pgE 60 w' lo (.slice A' xs'.length c') xs' /\ PgsAt lo w' xs' l' /\ On S B t u TM root 0 r σ w' /\ Fr (fun k => S k \/ own = some k) w w' /\ ∀ k, (Value.slice A' xs'.length c').ownBlock = some k -> own = some k \/ w.heap.size <= k
section
variable {S : Nat -> Prop} {B t : Nat} {room : Int} {disk : Tp.Disk} {TM : Nat -> Tp.Pst -> World -> Prop}
theorem walk_any (M : Mach S B t room disk TM) (u : Nat) (root : Int) (σ : Tp.Pst) (lo : Nat) (hlo : B <= lo) : ∀ (f d : Nat) (id : Int) (l l' : List (Int × Nat × Nd.Node)) (xs : List RawPg) (A : Option Addr) (c r : Nat) (w : World), d + f = 24 -> Tp.pWalk disk σ f l id = (l', 0) -> l'.length <= 100000 -> LO pgE 60 w lo (.slice A xs.length c) xs -> PgsAt lo w xs l -> lo <= w.heap.size -> On S B t u TM root 0 (r + Tp.cost Tp.rd disk σ f id) σ w ->
   Calls Tryz.prog 53 #[.pointer (some ⟨u, 0, none⟩), .slice A xs.length c, .int .i64 id, .int .i64 (d : Nat)] w (WkEnd S B t u TM root r σ lo (Value.slice A xs.length c).ownBlock l' w) := by
 intro f
 induction f with
 | zero => intro d id l l' xs A c r w hd h; rw [Tp.pWalk] at h; simp at h
 | succ f ih =>
   intro d id l l' xs A c r w hd hwk hl' hrow hpg hlw h
   obtain ⟨f', n, e, hv, hgo⟩ := walk_view hwk
   obtain rfl : f' = f := by omega
   have hdd : 24 - (f' + 1) = d := by omega
   rw [hdd] at hgo
   have hll : l.length + 1 <= 100000 := by
     have h1 := walkKids_len (walk_len disk σ f') n.kids (l ++ [(id, d, n)])
     rw [hgo, List.length_append] at h1
     simp only [List.length_singleton] at h1
     omega
   have hxl : xs.length + 1 <= 100000 := by have := hpg.1; omega
   clear hwk
   rw [Tp.cost_eq hv, show Tp.rd n = 2 from rfl] at h
   obtain ⟨cst, hcst⟩ : ∃ c, c = Tp.costs Tp.rd disk σ f' n.kids := ⟨_, rfl⟩
   rw [<- hcst] at h
   have hfit := (M.ht h.tm hv).1
   have hkl : n.kids.length <= 100000 := (fits_nb hfit).i
   have HLD := Lib.hid (load_any M u root 0 (r + cst) σ id d n hv (by omega) w (h.less M (by omega)))
   have hsz := M.size h.tm
   have hun : u < w.heap.size := h.self.lt
   have hSlo : ∀ k, S k -> k < lo := fun k a => Nat.lt_of_lt_of_le (M.low k a) hlo
   have HIH := Lib.hid ih
   have HM := Lib.hid M
   have HGO := Lib.hid hgo
   have HC := Lib.hid hcst
   have HROW := Lib.hid hrow
   have HPG := Lib.hid hpg
   have HSL := Lib.hid hSlo
   clear h hv hfit hgo ih M hcst e hrow hpg hSlo
   go_enter Tryz.func53, Tryz.ntmps53
   go_wp2_with fail
   refine Calls.mono HLD.out ?_
   rintro e w1 ⟨v, rfl, hnf, hon1, hf1⟩
   obtain ⟨N1, c1, N2, c2, N3, c3, rfl, rn⟩ := hnf
   have hz1 := hf1.size
   have hb2 := (Below.refl w1.heap.size w1).alloc (Nat.le_refl _) (.cells #[.bool n.leaf, .slice N1 n.ents.length c1, .slice N2 n.kids.length c2, .slice N3 n.keys.length c3] 58)
   have hF2 : Fr S w _ := hf1.trans (.of_below hb2)
   have hon2 := hon1.below HM.out hb2
   have hBn := Blk.new w1 58 #[.bool n.leaf, .slice N1 n.ents.length c1, .slice N2 n.kids.length c2, .slice N3 n.keys.length c3]
   have hNF := NF.below (lo := w.heap.size) (v := .agg #[.bool n.leaf, .slice N1 n.ents.length c1, .slice N2 n.kids.length c2, .slice N3 n.keys.length c3]) ⟨N1, c1, N2, c2, N3, c3, rfl, rn⟩ hb2
   have hR2 : LO pgE 60 _ lo _ xs := HROW.out.fr hF2 HSL.out
   have hP2 := HPG.out.fr hF2 HSL.out
   unfold nodeV
   have g0 := hBn.cell 0
   have g1 := hBn.cell 1
   have g2 := hBn.cell 2
   have g3 := hBn.cell 3
   have ln := hBn.lt
   have row : World.ownsRow _ lo 60 6 (.slice A xs.length c) xs.length (pgE.cells xs) := hR2
   have hbase := Nat.le_trans hlw hF2.size
   have HBn := Lib.hid hBn
   have HF2 := Lib.hid hF2
   have HON2 := Lib.hid hon2
   have HNF := Lib.hid hNF
   have HR2 := Lib.hid hR2
   have HP2 := Lib.hid hP2
   have HRN := Lib.hid rn
   have HBB := Lib.hid hb2
   clear hb2 hon1 hon2 hf1 rn hBn hNF hF2 hR2 hP2
   go_wp2_with (at_builtin; refine wpList_app1 rfl _ _ 52 rfl eiPg Tryz.underlying52 rfl (by decide) rfl row rfl (by simp) rfl (by simp [Value.oneCell']) (by unfold maxLen; omega) (by omega) hbase ?_; intro v' w3 hown' hgrow hbel hob _; obtain ⟨A1, k1, rfl⟩ := own_form hown'; have hB3 := HBn.out.grown hgrow (fun e => own_blk_ne row HBn.out (by decide) e.symm); have b2 : w3.cell? ⟨w1.heap.size, 2, none⟩ = some (.slice N2 n.kids.length c2) := hB3.cell 2; have b3 := hB3.lt; have HT := Lib.hid (And.intro hown' (And.intro hgrow hob)); clear hB3 hown' hgrow hob hbel)
   obtain ⟨hown', hgrow, hob⟩ := HT.out
   have hr3 : LO pgE 60 w3 lo (.slice A1 (xs.length + 1) k1) (xs ++ [⟨id, d, n.leaf, N1, n.ents.length, c1, N2, n.kids.length, c2, N3, n.keys.length, c3⟩]) := LO.snoc rfl rfl rfl hown'
   have hp3 : PgsAt lo w3 (xs ++ [⟨id, d, n.leaf, N1, n.ents.length, c1, N2, n.kids.length, c2, N3, n.keys.length, c3⟩]) (l ++ [(id, d, n)]) := (HP2.out.row2 row hgrow).snoc ⟨rfl, rfl, (HNF.out.row2 row hgrow).lower hlw⟩
   have hon3 := HON2.out.row HM.out row hlo (by decide) (by decide) (by decide) (by decide) (by decide) hgrow
   have hk3 := ((LO.below HRN.out.2.1 HBB.out).row2 row (by decide) hgrow).sv
   have hxl1 : (xs ++ [(⟨id, d, n.leaf, N1, n.ents.length, c1, N2, n.kids.length, c2, N3, n.keys.length, c3⟩ : RawPg)]).length = xs.length + 1 := by simp
   rw [<- hxl1] at hr3 hob ⊢
   have hkl3 := (LO.below HRN.out.2.1 HBB.out).row2 row (by decide) hgrow
   have hne : ∀ b, (Value.slice N2 n.kids.length c2).ownBlock = some b -> (Value.slice A1 (xs ++ [(⟨id, d, n.leaf, N1, n.ents.length, c1, N2, n.kids.length, c2, N3, n.keys.length, c3⟩ : RawPg)]).length k1).ownBlock ≠ some b := fun b hb => own_neq hkl3 hr3 (by decide) hb
   have hfar : ∀ b off, N2 = some ⟨b, off, none⟩ -> (Value.slice N2 n.kids.length c2).ownBlock = some b /\ w.heap.size <= b /\ b < w3.heap.size := fun b off e => by
     rcases hkl3.2 with ⟨e1, _⟩ | ⟨g, cap, cur, e1, e2, e3, _⟩
     · injection e1 with e1; rw [e1] at e; cases e
     · injection e1 with e1; rw [e1] at e; injection e with e; injection e with e; subst e; subst e1; exact ⟨rfl, e2, (Array.getElem?_eq_some_iff.1 e3).1⟩
   have hF3 : Fr (fun k => S k \/ (Value.slice A xs.length c).ownBlock = some k) w w3 := (HF2.out.more fun _ => .inl).trans ((Fr.of_grown hgrow).more fun _ => .inr)
   have hob3 : ∀ k, (Value.slice A1 (xs ++ [(⟨id, d, n.leaf, N1, n.ents.length, c1, N2, n.kids.length, c2, N3, n.keys.length, c3⟩ : RawPg)]).length k1).ownBlock = some k -> (Value.slice A xs.length c).ownBlock = some k \/ w.heap.size <= k := fun k hk => by
     rcases hob with e | ⟨g, e, hg⟩
     · exact .inl (e ▸ hk)
     · rw [e] at hk; injection hk with hk; subst hk; exact .inr (Nat.le_trans HF2.out.size hg)
   have HK3 := Lib.hid hk3
   have HNE := Lib.hid hne
   have HFAR := Lib.hid hfar
   have HF3 := Lib.hid hF3
   have HOB3 := Lib.hid hob3
   have HR3 := Lib.hid hr3
   have HP3 := Lib.hid hp3
   have HON3 := Lib.hid (hon3.less HM.out (show r + Tp.costs Tp.rd disk σ f' (n.kids.drop 0) <= r + cst by rw [HC.out]; exact Nat.le_refl _))
   generalize (xs ++ [(⟨id, d, n.leaf, N1, n.ents.length, c1, N2, n.kids.length, c2, N3, n.keys.length, c3⟩ : RawPg)]) = xs1 at *
   clear hown' hgrow hob hr3 hp3 hon3 hk3 hxl1 hkl3 hne hfar hF3 hob3 HT row g0 g1 g2 g3 ln hbase b2 b3
   go_loopg [1, 35] n.kids.length (fun g s1 s35 wr => ∃ (j : Nat) (xj : List RawPg) (Aj : Option Addr) (cj : Nat) (lj : List (Int × Nat × Nd.Node)), s1 = .slice Aj xj.length cj /\ s35 = .int .i64 (j : Nat) /\ j <= n.kids.length /\ n.kids.length - j <= g /\ Hid (Tp.pWalkKids (Tp.pWalk disk σ f') (n.kids.drop j) lj = (l', 0)) /\ Hid (LO pgE 60 wr lo (.slice Aj xj.length cj) xj) /\ Hid (PgsAt lo wr xj lj) /\ Hid (On S B t u TM root 0 (r + Tp.costs Tp.rd disk σ f' (n.kids.drop j)) σ wr) /\ Hid (Fr (fun k => S k \/ (Value.slice A xs.length c).ownBlock = some k) w wr) /\ Hid (∀ k, (Value.slice Aj xj.length cj).ownBlock = some k -> (Value.slice A1 xs1.length k1).ownBlock = some k \/ w3.heap.size <= k) /\ Hid (w3.heap.size <= wr.heap.size /\ ∀ b off, N2 = some ⟨b, off, none⟩ -> wr.heap[b]? = w3.heap[b]?))
   case atStart => exact ⟨0, xs1, A1, k1, l ++ [(id, d, n)], rfl, rfl, Nat.zero_le _, by omega, HGO, HR3, HP3, HON3, HF3, Lib.hid (fun k a => .inl a), Lib.hid ⟨Nat.le_refl _, fun _ _ _ => rfl⟩⟩
   case round =>
     obtain ⟨j, xj, Aj, cj, lj, rfl, rfl, hjk, hjg, HGJ, HRJ, HPJ, HONJ, HFJ, HOJ, HBJ⟩ := hrel
     by_cases hj : j < n.kids.length
     · obtain ⟨bb, oo, rfl, hbb, kc⟩ := HK3.out.ls.int hj
       have hcell : wr.cell? ⟨bb, oo + j, none⟩ = some (.int .i64 (n.kids[j]'hj)) := by
         rw [<- kc]
         unfold World.cell?
         rw [HBJ.out.2 bb oo rfl]
       have hbl : bb < wr.heap.size := Nat.lt_of_lt_of_le hbb HBJ.out.1
       obtain ⟨l1, hwj, hgj⟩ := walkKids_at hj HGJ.out
       have hon := HONJ.out
       rw [Tp.costs_drop n.kids j hj, show r + (Tp.cost Tp.rd disk σ f' n.kids[j] + Tp.costs Tp.rd disk σ f' (n.kids.drop (j + 1))) = r + Tp.costs Tp.rd disk σ f' (n.kids.drop (j + 1)) + Tp.cost Tp.rd disk σ f' n.kids[j] by omega] at hon
       have hl1 : l1.length <= 100000 := by
         have h1 := walkKids_len (walk_len disk σ f') (n.kids.drop (j + 1)) l1
         rw [hgj] at h1
         exact Nat.le_trans h1 hl'
       have hcall := HIH.out (d + 1) (n.kids[j]'hj) lj l1 xj Aj cj (r + Tp.costs Tp.rd disk σ f' (n.kids.drop (j + 1))) wr (by omega) hwj hl1 HRJ.out HPJ.out (Nat.le_trans hlw HFJ.out.size) hon
       rw [show ((d + 1 : Nat) : Int) = (d : Int) + 1 by omega] at hcall
       have HCALL := Lib.hid hcall
       have hwd : IntKind.i64.wrap ((d : Int) + 1) = (d : Int) + 1 := IntWalk.i64_in _ (by omega)
       have hwj1 : IntKind.i64.wrap ((j : Int) + 1) = (j : Int) + 1 := IntWalk.i64_in _ (by omega)
       have hji : (j : Int) < (n.kids.length : Nat) := by omega
       have HGJ1 := Lib.hid hgj
       generalize n.kids[j]'hj = kid at *
       clear hcall hon hwj hgj hl1 kc
       go_wp2_with fail
       refine Calls.mono HCALL.out ?_
       rintro e w4 ⟨A4, c4, x4, rfl, hr4, hp4, hon4, hf4, ho4⟩
       have hF4 := HFJ.out.go hf4 (fun k a => by
         rcases a with a | a
         · exact .inl (.inl a)
         · rcases HOJ.out k a with a | a
           · rcases HOB3.out k a with a | a
             · exact .inl (.inr a)
             · exact .inr a
           · exact .inr (Nat.le_trans HF3.out.size a))
       have HR4 := Lib.hid hr4
       have HP4 := Lib.hid hp4
       have HON4 := Lib.hid hon4
       have HF4 := Lib.hid hF4
       have HO4 : Hid (∀ k, (Value.slice A4 x4.length c4).ownBlock = some k -> (Value.slice A1 xs1.length k1).ownBlock = some k \/ w3.heap.size <= k) := Lib.hid (fun k hk => by
         rcases ho4 k hk with a | a
         · exact HOJ.out k a
         · exact .inr (Nat.le_trans HBJ.out.1 a))
       have HB4 : Hid (w3.heap.size <= w4.heap.size /\ ∀ b off, (some ⟨bb, oo, none⟩ : Option Addr) = some ⟨b, off, none⟩ -> w4.heap[b]? = w3.heap[b]?) := Lib.hid ⟨Nat.le_trans HBJ.out.1 hf4.size, fun b off e => by
         obtain ⟨q1, q2, q3⟩ := HFAR.out b off e
         refine (hf4.block b (Nat.lt_of_lt_of_le q3 HBJ.out.1) (fun a => ?_)).trans (HBJ.out.2 b off e)
         rcases a with a | a
         · exact HM.out.far (Nat.le_trans hsz q2) a
         · rcases HOJ.out b a with a | a
           · exact HNE.out b q1 a
           · omega⟩
       clear hr4 hp4 hon4 hf4 ho4 hF4
       go_wp2
       go_roundg (n.kids.length - (j + 1))
       case measure => omega
       case rel => exact ⟨j + 1, x4, A4, c4, l1, rfl, by go_num, by omega, Nat.le_refl _, HGJ1, HR4, HP4, HON4, HF4, HO4, HB4⟩
     · have hji : ¬ (j : Int) < (n.kids.length : Nat) := by omega
       obtain rfl : j = n.kids.length := by omega
       have hend := HGJ.out
       rw [List.drop_eq_nil_of_le (Nat.le_refl _), Tp.pWalkKids] at hend
       obtain rfl : lj = l' := by injection hend
       have HEND := Lib.hid (show WkEnd S B t u TM root r σ lo (Value.slice A xs.length c).ownBlock lj w (.returned (.tuple #[.slice Aj xj.length cj, .int .i64 0])) wr from ⟨Aj, cj, xj, rfl, HRJ.out, HPJ.out, HONJ.out.less HM.out (by omega), HFJ.out, fun k hk => by
         rcases HOJ.out k hk with a | a
         · exact HOB3.out k a
         · exact .inr (Nat.le_trans HF3.out.size a)⟩)
       clear hend
       go_wp2
       go_ret2
       exact HEND.out
end
def WlEnd (S : Nat -> Prop) (B t u : Nat) (TM : Nat -> Tp.Pst -> World -> Prop) (root : Int) (r : Nat) (σ : Tp.Pst) (l : List (Int × Nat × Nd.Node)) (w : World) (e : Ending) (w' : World) : Prop :=
 ∃ A c xs, e = .returned (.tuple #[.slice A xs.length c, .int .i64 0]) /\ LO pgE 60 w' w.heap.size (.slice A xs.length c) xs /\ PgsAt w.heap.size w' xs l /\ On S B t u TM root 0 r σ w' /\ Fr S w w'
section
variable {S : Nat -> Prop} {B t : Nat} {room : Int} {disk : Tp.Disk} {TM : Nat -> Tp.Pst -> World -> Prop}
theorem wal_any (M : Mach S B t room disk TM) (u : Nat) (root : Int) (h0 : root ≠ 0) (σ : Tp.Pst) (l : List (Int × Nat × Nd.Node)) (r : Nat) (w : World) (hwk : Tp.pWalk disk σ 24 [] root = (l, 0)) (hl : l.length <= 100000) (h : On S B t u TM root 0 (r + Tp.cost Tp.rd disk σ 24 root) σ w) :
   Calls Tryz.prog 27 #[.pointer (some ⟨u, 0, none⟩)] w (WlEnd S B t u TM root r σ l w) := by
 have t1 : w.cell? ⟨u, 1, none⟩ = some (.int .i64 root) := h.self.cell 1
 have t2 : w.cell? ⟨u, 2, none⟩ = some (.int .i64 0) := h.self.cell 2
 have lu := h.self.lt
 have hrn : (root == 0) = false := by simpa using h0
 have HC := Lib.hid (walk_any M u root σ w.heap.size (M.size h.tm) 24 0 root [] l [] none 0 r w (by omega) hwk hl (LO.nil_ _ _) (PgsAt.nil_ _ _) (Nat.le_refl _) h)
 clear h M hwk
 go_enter Tryz.func27, Tryz.ntmps27
 go_wp2_with fail
 refine Calls.mono HC.out ?_
 rintro e w2 ⟨A, c, xs, rfl, hr, hp, hon, hf, _⟩
 have HEND := Lib.hid (show WlEnd S B t u TM root r σ l w (.returned (.tuple #[.slice A xs.length c, .int .i64 0])) w2 from ⟨A, c, xs, rfl, hr, hp, hon, hf.more (fun k a => by
   rcases a with a | a
   · exact a
   · simp [Value.ownBlock] at a)⟩)
 clear hr hp hon hf
 go_wp2
 go_ret2
 exact HEND.out
end
end Go.Proofs.YtpfplojkiloldaaGreatDoor
namespace Tp
open Nd En
def pgL (v : Int -> Option Node) : Nat -> Nat -> Int -> List (Int × Nat × Node)
 | 0, d, id => match v id with
   | none => []
   | some n => [(id, d, n)]
 | h + 1, d, id => match v id with
   | none => []
   | some n => (id, d, n) :: n.kids.flatMap (pgL v h (d + 1))
theorem pgL_leaf {v : Int -> Option Node} {d : Nat} {lo hi : Option Str} {s : Sub} (hs : Tr v 0 lo hi s) : pgL v 0 d s.id = [(s.id, d, mkLeaf s.es)] := by rw [pgL, hs.1]
theorem pgL_inner {v : Int -> Option Node} {h d : Nat} {id : Int} {subs : List Sub} {keys : List Str} (hv : v id = some (mkInner (subs.map (·.id)) keys)) : pgL v (h + 1) d id = (id, d, mkInner (subs.map (·.id)) keys) :: subs.flatMap (fun t => pgL v h (d + 1) t.id) := by
 rw [pgL, hv]
 simp only [mkInner]
 rw [List.flatMap_map]
theorem walk_kids {wk : List (Int × Nat × Node) -> Int -> List (Int × Nat × Node) × Int} {p : Sub -> List (Int × Nat × Node)} : ∀ (subs : List Sub) (l : List (Int × Nat × Node)), (∀ t ∈ subs, ∀ l, wk l t.id = (l ++ p t, 0)) -> pWalkKids wk (subs.map (·.id)) l = (l ++ subs.flatMap p, 0)
 | [], l, _ => by simp [pWalkKids]
 | t :: r, l, h => by
   rw [List.map_cons, pWalkKids, h t List.mem_cons_self]
   simp only
   rw [walk_kids r _ (fun u hu => h u (List.mem_cons_of_mem _ hu)), List.flatMap_cons, List.append_assoc]
theorem flat_congr {β : Type} {f g : Sub -> List β} : ∀ (l : List Sub), (∀ t ∈ l, f t = g t) -> l.flatMap f = l.flatMap g
 | [], _ => rfl
 | t :: l, h => by rw [List.flatMap_cons, List.flatMap_cons, h t List.mem_cons_self, flat_congr l fun u hu => h u (List.mem_cons_of_mem _ hu)]
section
variable {disk : Disk} {σ : Pst} {v : Int -> Option Node}
theorem walk_tr : ∀ (h f : Nat) (lo hi : Option Str) (s : Sub) (l : List (Int × Nat × Node)), h < f -> f <= 24 -> Tr (σ.view disk) h lo hi s -> pWalk disk σ f l s.id = (l ++ pgL (σ.view disk) h (24 - f) s.id, 0)
 | 0, f + 1, lo, hi, s, l, _, _, hs => by
   rw [pWalk, pgL_leaf hs, hs.1]
   rfl
 | h + 1, f + 1, lo, hi, s, l, hf, hf2, hs => by
   obtain ⟨subs, keys, a1, a2, a3, a4, a5, a6, a7⟩ := hs
   rw [pgL_inner a1, pWalk, a1]
   show pWalkKids (pWalk disk σ f) (subs.map (·.id)) _ = _
   rw [walk_kids (p := fun t => pgL (σ.view disk) h (24 - f) t.id) subs _ (fun t ht l => by
     obtain ⟨l', h', hp⟩ := chain_all a7 t ht
     exact walk_tr h f l' h' t l (by omega) (by omega) hp)]
   rw [show 24 - (f + 1) + 1 = 24 - f by omega, List.append_assoc]
   rfl
theorem pgL_ids : ∀ (h d : Nat) (lo hi : Option Str) (s : Sub), Tr v h lo hi s -> (pgL v h d s.id).map (·.1) = s.ids
 | 0, d, lo, hi, s, hs => by rw [pgL_leaf hs, hs.2.1]; rfl
 | h + 1, d, lo, hi, s, hs => by
   obtain ⟨subs, keys, a1, a2, a3, a4, a5, a6, a7⟩ := hs
   rw [pgL_inner a1, List.map_cons, List.map_flatMap, a3]
   unfold ids_
   rw [flat_congr subs fun t ht => by
     obtain ⟨l', h', hp⟩ := chain_all a7 t ht
     exact pgL_ids h (d + 1) l' h' t hp]
theorem pgL_len {h d : Nat} {lo hi : Option Str} {s : Sub} (hs : Tr v h lo hi s) : (pgL v h d s.id).length = s.ids.length := by
 rw [<- pgL_ids h d lo hi s hs, List.length_map]
theorem flat_len {β : Type} {f : Sub -> List β} {g : Sub -> Nat} : ∀ (l : List Sub), (∀ t ∈ l, (f t).length <= g t) -> (l.flatMap f).length <= (l.map g).sum
 | [], _ => Nat.le_refl _
 | t :: l, h => by
   rw [List.flatMap_cons, List.length_append, List.map_cons, List.sum_cons]
   have h1 := h t List.mem_cons_self
   have h2 := flat_len l fun u hu => h u (List.mem_cons_of_mem _ hu)
   omega
theorem es_len (l : List Sub) : (es_ l).length = (l.map fun t => t.es.length).sum := by
 unfold es_; rw [List.length_flatMap]
theorem sum_mul (l : List Sub) (k : Nat) : (l.map fun t => k * t.es.length).sum = k * (es_ l).length := by
 rw [es_len]
 induction l with
 | nil => rfl
 | cons t l ih => rw [List.map_cons, List.sum_cons, ih, List.map_cons, List.sum_cons, Nat.mul_add]
theorem kids_le_es {h : Nat} (ih : ∀ lo hi s, Tr v h lo hi s -> s.ids.length <= (h + 1) * s.es.length) {lo hi : Option Str} {subs : List Sub} {keys : List Str} (hch : Chain (Tr v h) lo hi subs keys) : (ids_ subs).length <= (h + 1) * (es_ subs).length := by
 rw [<- sum_mul]
 unfold ids_
 exact flat_len subs fun t ht => by
   obtain ⟨l', h', hp⟩ := chain_all hch t ht
   exact ih l' h' t hp
theorem ids_le_es : ∀ (h : Nat) (lo hi : Option Str) (s : Sub), Tr v h lo hi s -> s.ids.length <= (h + 1) * s.es.length
 | 0, lo, hi, s, hs => by
   have := List.length_pos_iff.2 hs.2.2.2.1
   rw [hs.2.1, List.length_singleton]; omega
 | h + 1, lo, hi, s, hs => by
   have hne := List.length_pos_iff.2 ((tr_good v (h + 1)).ne hs)
   obtain ⟨subs, keys, a1, a2, a3, a4, a5, a6, a7⟩ := hs
   have := kids_le_es (ids_le_es h) a7
   rw [a3, List.length_cons, Nat.succ_mul, a4]
   rw [a4] at hne
   omega
theorem es_le_tok : ∀ (h : Nat) (lo hi : Option Str) (s : Sub), Tr v h lo hi s -> s.es.length <= s.tok
 | 0, lo, hi, s, hs => hs.2.2.2.2.2
 | h + 1, lo, hi, s, hs => by
   obtain ⟨subs, keys, a1, a2, a3, a4, a5, a6, a7⟩ := hs
   rw [a4, es_len]
   refine Nat.le_trans ?_ a5
   unfold toks
   have key : ∀ l : List Sub, (∀ t ∈ l, t.es.length <= t.tok) -> (l.map fun t => t.es.length).sum <= (l.map (·.tok)).sum := fun l => by
     induction l with
     | nil => intro _; exact Nat.le_refl _
     | cons t l ih =>
       intro hl
       rw [List.map_cons, List.sum_cons, List.map_cons, List.sum_cons]
       have h1 := hl t List.mem_cons_self
       have h2 := ih fun u hu => hl u (List.mem_cons_of_mem _ hu)
       omega
   exact key subs fun t ht => by
     obtain ⟨l', h', hp⟩ := chain_all a7 t ht
     exact es_le_tok h l' h' t hp
def lev : Nat -> Nat -> Nat
 | 0, t => t
 | h + 1, t => t / 6 ^ (h + 1) + lev h t
theorem div_add_le (a b m : Nat) : a / m + b / m <= (a + b) / m := by
 rcases Nat.eq_zero_or_pos m with rfl | hm
 · simp
 · rw [Nat.le_div_iff_mul_le hm, Nat.add_mul]
   have h1 := Nat.div_mul_le_self a m
   have h2 := Nat.div_mul_le_self b m
   omega
theorem lev_add : ∀ (h a b : Nat), lev h a + lev h b <= lev h (a + b)
 | 0, a, b => Nat.le_refl _
 | h + 1, a, b => by
   have h1 := lev_add h a b
   have h2 := div_add_le a b (6 ^ (h + 1))
   simp only [lev]
   omega
theorem lev_mono : ∀ (h : Nat) {a b : Nat}, a <= b -> lev h a <= lev h b
 | 0, _, _, hab => hab
 | h + 1, a, b, hab => by
   have h1 := lev_mono h hab
   have h2 := Nat.div_le_div_right (c := 6 ^ (h + 1)) hab
   simp only [lev]
   omega
theorem lev_sum (h : Nat) : ∀ l : List Sub, (l.map fun t => lev h t.tok).sum <= lev h (toks l)
 | [] => Nat.zero_le _
 | t :: l => by
   rw [List.map_cons, List.sum_cons, toks_cons]
   have h1 := lev_sum h l
   have h2 := lev_add h t.tok (toks l)
   omega
theorem lev_le : ∀ (h t : Nat), 5 * lev h t + t / 6 ^ h <= 6 * t
 | 0, t => by simp [lev]; omega
 | h + 1, t => by
   have h1 := lev_le h t
   have h2 : t / 6 ^ (h + 1) = t / 6 ^ h / 6 := by rw [Nat.pow_succ, Nat.div_div_eq_div_mul]
   simp only [lev]
   omega
theorem kids_lev {h : Nat} (ih : ∀ lo hi s, 6 ^ h <= s.tok -> Tr v h lo hi s -> s.ids.length <= lev h s.tok) {lo hi : Option Str} {subs : List Sub} {keys : List Str} (h6 : ∀ t ∈ subs, 6 ^ h <= t.tok) (hch : Chain (Tr v h) lo hi subs keys) : (ids_ subs).length <= lev h (toks subs) := by
 refine Nat.le_trans ?_ (lev_sum h subs)
 unfold ids_
 exact flat_len subs fun t ht => by
   obtain ⟨l', h', hp⟩ := chain_all hch t ht
   exact ih l' h' t (h6 t ht) hp
theorem ids_lev : ∀ (h : Nat) (lo hi : Option Str) (s : Sub), 6 ^ h <= s.tok -> Tr v h lo hi s -> s.ids.length <= lev h s.tok
 | 0, lo, hi, s, h6, hs => by rw [hs.2.1]; exact h6
 | h + 1, lo, hi, s, h6, hs => by
   obtain ⟨subs, keys, a1, a2, a3, a4, a5, a6, a7⟩ := hs
   have h1 := kids_lev (ids_lev h) a6 a7
   have h2 := lev_mono h a5
   have h3 : 0 < s.tok / 6 ^ (h + 1) := Nat.div_pos h6 (Nat.pow_pos (by decide))
   rw [a3, List.length_cons]
   simp only [lev]
   omega
theorem root_lev {h : Nat} {lo hi : Option Str} {s : Sub} (hs : Tr v h lo hi s) : 5 * s.ids.length <= 6 * s.tok + 5 := by
 cases h with
 | zero => rw [hs.2.1]; simp
 | succ h =>
   obtain ⟨subs, keys, a1, a2, a3, a4, a5, a6, a7⟩ := hs
   have h1 := kids_lev (ids_lev h) a6 a7
   have h2 := Nat.le_trans (Nat.le_add_right _ _) (lev_le h (toks subs))
   rw [a3, List.length_cons]
   omega
end
section
variable {room : Int} {disk : Disk} {used : List Run} {σ : Pst} {root : Int} {es : List En.Ent} {tok : Nat} {ids : List Int}
theorem RootAt.few (h : RootAt disk used σ root es tok ids) : 5 * ids.length <= 6 * tok + 5 := by
 rcases h with ⟨rfl, rfl, rfl⟩ | ⟨h, s, rfl, rfl, rfl, q4, q5, q6, q7, q8⟩
 · simp
 · have := root_lev q5; omega
theorem RootAt.right (h : RootAt disk used σ root es tok ids) : En.right es = true := by
 rcases h with ⟨rfl, rfl, rfl⟩ | ⟨h, s, rfl, rfl, rfl, q4, q5, q6, q7, q8⟩
 · rfl
 · exact (tr_good _ _).srt q5
theorem RootAt.len (h : RootAt disk used σ root es tok ids) : es.length <= tok := by
 rcases h with ⟨rfl, rfl, rfl⟩ | ⟨h, s, rfl, rfl, rfl, q4, q5, q6, q7, q8⟩
 · simp
 · have := es_le_tok _ _ _ _ q5; omega
theorem grow_leaf {l : List En.Ent} {pg : Int} (hv : σ.view disk pg = some (mkLeaf l)) : pGrow room disk 2 σ ([pg], []) = (.ok pg, σ) := by
 rw [pGrow, if_neg (by simp)]
 simp only
 rw [pShrink, hv]
 simp [mkLeaf]
theorem update_small {g : List En.Ent -> List En.Ent} {key : Str} (hap : ApS room used σ) (hr : RootAt disk used σ root es tok ids) (h1 : ids.length <= 1) (hne : g es ≠ []) (hf : fits (mkLeaf (g es)) = true) (δ : Nat) (hd : (g es).length <= es.length + δ) :
   Res room disk used σ (fun x => x ∈ ids) 1 (pUpdate room disk g key σ root) (fun root' σ' ids' => RootAt disk used σ' root' (g es) (tok + δ) ids' /\ ids'.length <= 1) := by
 have hl := hr.len
 have hne2 : (mkLeaf (g es)).ents.length + (mkLeaf (g es)).kids.length ≠ 0 := by
   have := List.length_pos_iff.2 hne
   show (g es).length + 0 ≠ 0
   omega
 have hgo : ∃ id, pFirst room disk g key σ root = pStore room (fuelOf (mkLeaf (g es))) σ id (mkLeaf (g es)) /\ (ids = [id] \/ (ids = [] /\ id = 0)) := by
   rcases hr with ⟨rfl, rfl, rfl⟩ | ⟨h, s, rfl, rfl, rfl, q4, q5, q6, q7, q8⟩
   · exact ⟨0, by unfold pFirst; rw [if_pos rfl], .inr ⟨rfl, rfl⟩⟩
   · have hz : s.id ≠ 0 := fun e => by
       have := use_range hap (q7 s.id (tr_id q5))
       omega
     cases h with
     | zero =>
       refine ⟨s.id, ?_, .inl q5.2.1⟩
       unfold pFirst
       rw [if_neg hz, pChange, q5.1]
       rfl
     | succ h =>
       exfalso
       obtain ⟨subs, keys, a1, a2, a3, a4, a5, a6, a7⟩ := q5
       rw [a3, List.length_cons] at h1
       obtain ⟨t, ht⟩ : ∃ t, t ∈ subs := List.exists_mem_of_ne_nil _ (chain_ne a7)
       obtain ⟨l', h', hp⟩ := chain_all a7 t ht
       have := List.length_pos_of_mem (mem_ids ht (tr_id hp))
       omega
 obtain ⟨id, e0, hid⟩ := hgo
 have hst := store_one (disk := disk) hap ((g es).length + 0) id hne2 hf
 unfold pUpdate
 rw [e0, show fuelOf (mkLeaf (g es)) = (g es).length + 0 + 1 from rfl]
 generalize pStore room ((g es).length + 0 + 1) σ id (mkLeaf (g es)) = r at *
 obtain ⟨r, σ1⟩ := r
 rcases hst with ⟨p, ids1, e1, s1, n1, l1, pg, rfl, rfl, v1⟩ | ⟨e1, s1, l1⟩
 · simp only at e1 s1 l1 v1
   subst e1
   simp only
   have hs2 : Step room disk used σ (fun x => x ∈ ids) σ1 (fun x => x ∈ [pg]) := by
     rcases hid with rfl | ⟨rfl, rfl⟩
     · exact s1.congr (fun x => by simp) (fun _ => Iff.rfl)
     · exact s1.shrink (fun x hx _ hu => no_zero hap (by omega) hu) (fun x hx => by simp at hx)
   rw [show ([pg] : List Int).length + 1 = 2 from rfl, grow_leaf v1]
   exact .inl ⟨pg, [pg], rfl, hs2, n1, l1, .inr ⟨0, ⟨pg, [pg], g es, tok + δ⟩, rfl, rfl, rfl, Nat.le_refl _, ⟨v1, rfl, hf, hne, fun x _ => ⟨(fun a h => by cases h), (fun a h => by cases h)⟩, by show (g es).length <= tok + δ; omega⟩, n1, fun x hx => s1.got hx, .inl rfl⟩, Nat.le_refl _⟩
 · simp only at e1 s1 l1
   subst e1
   exact .inr ⟨rfl, s1, l1⟩
end
end Tp
namespace Go.Proofs.YtpfplojkiloldaaGreatDoor
open Go.RowKit Go.Shelf
structure TAd where
 B : Nat
 t : Nat
 m : Nat
 f : Nat
 u : Nat
def TAd.S (a : TAd) (k : Nat) : Prop := k = a.t \/ k = a.m
def TAd.F (a : TAd) (k : Nat) : Prop := a.S k \/ k = a.u
abbrev noDisk : Tp.Disk := fun _ => none
structure TSt (n : Nat) (a : TAd) (root : Int) (σ : Tp.Pst) (ids : List Int) (es : List Ent) (tok : Nat) (w : World) : Prop where
 on : On a.S a.B a.t a.u (TMf a.B a.t a.m a.f n) root 0 0 σ w
 rt : Tp.RootAt noDisk [] σ root es tok ids
 mine : ∀ x, x ∈ σ.mine ↔ x ∈ ids
 tl : tok <= 200000
def TOne (n : Nat) (a : TAd) (es : List Ent) (tok : Nat) (w : World) : Prop := ∃ root σ ids, TSt n a root σ ids es tok w /\ ids.length <= 1
theorem On.any {S : Nat -> Prop} {B t m f n u r r' : Nat} {root e : Int} {σ : Tp.Pst} {w : World} (h : On S B t u (TMf B t m f n) root e r σ w) : On S B t u (TMf B t m f n) root e r' σ w := ⟨h.tm.less, h.self, h.hu⟩
section
variable {n : Nat} {a : TAd} {root : Int} {σ : Tp.Pst} {ids : List Int} {es : List Ent} {tok : Nat} {w w' : World}
theorem TSt.mach (h : TSt n a root σ ids es tok w) : Mach a.S a.B a.t (max (n : Int) 2) noDisk (TMf a.B a.t a.m a.f n) := mach_fresh h.on.tm.low.1 h.on.tm.low.2.1 a.f n
theorem TSt.low (h : TSt n a root σ ids es tok w) : ∀ k, a.F k -> k < w.heap.size := fun k hk => by
 have h1 := h.on.tm.low
 rcases hk with hk | rfl
 · have := h.mach.low k hk; omega
 · exact h.on.self.lt
theorem TSt.nodup (h : TSt n a root σ ids es tok w) : ids.Nodup := by
 rcases h.rt with ⟨_, _, rfl⟩ | ⟨_, s, _, _, _, _, _, q, _⟩
 · exact List.nodup_nil
 · exact q
theorem TSt.mineLen (h : TSt n a root σ ids es tok w) : σ.mine.length = ids.length := by
 have h1 := List.Nodup.length_le_of_subset h.on.tm.ap.nd (fun x hx => (h.mine x).1 hx)
 have h2 := List.Nodup.length_le_of_subset h.nodup (fun x hx => (h.mine x).2 hx)
 omega
theorem TSt.below (h : TSt n a root σ ids es tok w) (hb : Below w.heap.size w w') : TSt n a root σ ids es tok w' := ⟨h.on.below h.mach hb, h.rt, h.mine, h.tl⟩
theorem TSt.with_ (h : TSt n a root σ ids es tok w) {r : Nat} (ho : On a.S a.B a.t a.u (TMf a.B a.t a.m a.f n) root 0 r σ w') : TSt n a root σ ids es tok w' := ⟨ho.any, h.rt, h.mine, h.tl⟩
theorem TSt.up (h : TSt n a root σ ids es tok w) {g : List Ent -> List Ent} {key : ByteArray} {N tok' : Nat} {X : List Int -> Prop} (hU : Tp.Res (max (n : Int) 2) noDisk [] σ (fun x => x ∈ ids) N (Tp.pUpdate (max (n : Int) 2) noDisk g key σ root) (fun root' σ' ids' => Tp.RootAt noDisk [] σ' root' (g es) tok' ids' /\ X ids')) (hs : (ids.length : Int) + N < max (n : Int) 2 - 2) (ht : tok' <= 200000) :
   ∃ root' σ' ids', Tp.pUpdate (max (n : Int) 2) noDisk g key σ root = (.ok root', σ') /\ X ids' /\ ∀ w' r, On a.S a.B a.t a.u (TMf a.B a.t a.m a.f n) root' 0 r σ' w' -> TSt n a root' σ' ids' (g es) tok' w' := by
 have hl := h.mineLen
 generalize Tp.pUpdate (max (n : Int) 2) noDisk g key σ root = o at *
 obtain ⟨o, σ'⟩ := o
 rcases hU with ⟨root', ids', e1, s1, n1, l1, q1, q2⟩ | ⟨e1, s1, l1⟩
 · simp only at e1 s1 q1
   subst e1
   refine ⟨root', σ', ids', rfl, q2, fun w' r ho => ⟨ho.any, q1, fun x => ?_, ht⟩⟩
   rw [s1.mem x, h.mine x]
   constructor
   · rintro (⟨a1, a2⟩ | ⟨a1, _⟩)
     · exact absurd a1 a2
     · exact a1
   · intro a1
     exact .inr ⟨a1, Rp.mem_nil _⟩
 · exfalso
   have : Tp.spare (max (n : Int) 2) [] = max (n : Int) 2 - 2 := by unfold Tp.spare; simp [Rp.nums]
   omega
theorem gPut_eq {k v : ByteArray} (hr : En.right es = true) (hm : En.may k v = true) : Tp.gPut k v es = En.put es k v := by unfold Tp.gPut; rw [hr, hm]; rfl
theorem gDel_eq {k : ByteArray} (hr : En.right es = true) : Tp.gDel k es = En.del es k := by unfold Tp.gDel; rw [hr]; rfl
theorem ins_len (x : Ent) : ∀ l : List Ent, (En.ins x l).length = l.length + 1
 | [] => rfl
 | y :: l => by
   unfold En.ins
   split
   · rfl
   · rw [List.length_cons, ins_len x l]; rfl
theorem del_len (l : List Ent) (k : ByteArray) : (En.del l k).length <= l.length := by unfold En.del; exact List.length_filter_le _ _
theorem get_none {l : List Ent} {k : ByteArray} (h : En.get l k = none) : ∀ x ∈ l, x.1 ≠ k := fun x hx e => by
 unfold En.get at h
 rw [Option.map_eq_none_iff, List.find?_eq_none] at h
 have := h x hx
 rw [e, En.eqs_self] at this
 simp at this
theorem get_some {l : List Ent} {k v : ByteArray} (h : En.get l k = some v) : (k, v) ∈ l := by
 unfold En.get at h
 rw [Option.map_eq_some_iff] at h
 obtain ⟨x, hx, rfl⟩ := h
 have h1 := List.mem_of_find?_eq_some hx
 have h2 := List.find?_some hx
 rw [En.eqs_iff] at h2
 rw [<- h2]; exact h1
theorem del_len_some {l : List Ent} {k v : ByteArray} (h : En.get l k = some v) : (En.del l k).length + 1 <= l.length := by
 have hm := get_some h
 unfold En.del
 have : (l.filter fun x => !En.eqs x.1 k).length < l.length := by
   refine Nat.lt_of_le_of_ne (List.length_filter_le _ _) fun e => ?_
   have := List.length_filter_eq_length_iff.1 e _ hm
   simp [En.eqs_self] at this
 exact this
def dput (es : List Ent) (k : ByteArray) : Nat := if (En.get es k).isSome then 0 else 1
theorem dput_le (es : List Ent) (k : ByteArray) : dput es k <= 1 := by unfold dput; split <;> omega
theorem eput_len {k v : ByteArray} (es : List Ent) : (En.put es k v).length <= es.length + dput es k := by
 unfold En.put dput
 rw [ins_len]
 cases h : En.get es k with
 | none => have := del_len es k; simp; omega
 | some v => have := del_len_some h; simp; omega
theorem tst_put1 (h : TOne n a es tok w) {k v : ByteArray} (hm : En.may k v = true) (hf : Nd.esize (En.put es k v) <= 240) (hr : 4 < n) (ht : tok <= 1000) :
   Calls Tryz.prog 15 #[.pointer (some ⟨a.u, 0, none⟩), .string k, .string v] w fun e w' => e = .returned (.int .i64 0) /\ TOne n a (En.put es k v) (tok + dput es k) w' /\ Fr a.F w w' := by
 obtain ⟨root, σ, ids, h, hi⟩ := h
 have hg := gPut_eq h.rt.right hm
 have hU := Tp.update_small (g := Tp.gPut k v) (key := k) h.on.tm.ap h.rt hi (by
   rw [hg]; unfold En.put; intro e
   have := congrArg List.length e
   rw [ins_len] at this; simp at this) (by rw [hg]; exact Tp.mkLeaf_fits (En.right_put h.rt.right hm) hf) (dput es k) (by rw [hg]; exact eput_len es)
 obtain ⟨root', σ', ids', e1, hi2, h2⟩ := h.up (X := fun i => i.length <= 1) hU (by omega) (by have := dput_le es k; omega)
 refine (ctput_may h.mach a.u root k v hm 0 σ (by rw [e1]; simp) w h.on.any).mono ?_
 rintro e w' ⟨hres, hf⟩
 rw [e1] at hres
 rcases hres with ⟨p, hp, rfl, ho⟩ | ⟨hp, _⟩
 · injection hp with hp
   subst hp
   refine ⟨rfl, ⟨root', σ', ids', ?_, hi2⟩, hf⟩
   rw [<- hg]
   exact h2 w' 0 ho
 · cases hp
theorem TSt.find (h : TSt n a root σ ids es tok w) (k : ByteArray) : Tp.pFind noDisk σ k 24 root = .ok (En.get es k) := by
 rcases h.rt with ⟨rfl, rfl, rfl⟩ | ⟨hh, s, rfl, rfl, rfl, q4, q5, q6, q7, q8⟩
 · rfl
 · have hz : s.id ≠ 0 := fun e => by
     have := Tp.use_range (room := max (n : Int) 2) h.on.tm.ap (q7 s.id (Tp.tr_id q5))
     omega
   have h8 := Tp.low_of q8 (by have := h.tl; omega)
   exact Tp.find_tr hh 24 none none s (by omega) q5 hz (fun a h => by cases h) (fun a h => by cases h)
theorem tst_get (h : TSt n a root σ ids es tok w) (k : ByteArray) :
   Calls Tryz.prog 24 #[.pointer (some ⟨a.u, 0, none⟩), .string k] w fun e w' => e = .returned (getV (En.get es k)) /\ TSt n a root σ ids es tok w' /\ Fr a.S w w' := by
 refine (tget_any h.mach a.u root k 0 σ (En.get es k) (h.find k) w h.on.any).mono ?_
 rintro e w' ⟨rfl, ho, hf⟩
 exact ⟨rfl, h.with_ ho, hf⟩
theorem del_none_ {k : ByteArray} (h : En.get es k = none) : En.del es k = es := Tp.del_none (get_none h)
theorem tst_del1 (h : TOne n a es tok w) (k : ByteArray) {v : ByteArray} (hgk : En.get es k = some v) (hne : En.del es k ≠ []) (hf : Nd.esize (En.del es k) <= 240) (hr : 4 < n) :
   Calls Tryz.prog 21 #[.pointer (some ⟨a.u, 0, none⟩), .string k] w fun e w' => e = .returned (.tuple #[.bool true, .int .i64 0]) /\ TOne n a (En.del es k) tok w' /\ Fr a.F w w' := by
 obtain ⟨root, σ, ids, h, hi⟩ := h
 have hfd := h.find k
 rw [hgk] at hfd
 have hg := gDel_eq (k := k) h.rt.right
 have hU := Tp.update_small (g := Tp.gDel k) (key := k) h.on.tm.ap h.rt hi (by rw [hg]; exact hne) (by rw [hg]; exact Tp.mkLeaf_fits (En.right_del h.rt.right) hf) 0 (by rw [hg]; exact del_len es k)
 obtain ⟨root', σ', ids', e1, hi2, h2⟩ := h.up (X := fun i => i.length <= 1) hU (by omega) (by have := h.tl; omega)
 refine (tdel_some h.mach a.u root k v 0 σ hfd (by rw [e1]; simp) w h.on.any).mono ?_
 rintro e w' ⟨hres, hf⟩
 rw [e1] at hres
 rcases hres with ⟨p, hp, rfl, ho⟩ | ⟨hp, _⟩
 · injection hp with hp
   subst hp
   refine ⟨rfl, ⟨root', σ', ids', ?_, hi2⟩, hf⟩
   rw [<- hg]
   exact h2 w' 0 ho
 · cases hp
theorem tst_new (k : Int) (w : World) : Calls Tryz.prog 13 #[.int .i64 k] w fun e w' => ∃ a : TAd, e = .returned (.pointer (some ⟨a.u, 0, none⟩)) /\ TOne (diskN k) a [] 0 w' /\ Below w.heap.size w w' /\ ∀ x, a.F x -> w.heap.size <= x := by
 refine (tree_any k 0 w).mono ?_
 rintro e w' ⟨B, t, m, f, u, rfl, ht, hm, h1, h2, h3, ho, hb⟩
 refine ⟨⟨B, t, m, f, u⟩, rfl, ⟨0, Tp.none_, [], ⟨ho, .inl ⟨rfl, rfl, rfl⟩, fun x => by simp [Tp.none_], by omega⟩, by simp⟩, hb, fun x hx => ?_⟩
 have := ho.hu
 rcases hx with (rfl | rfl) | rfl
 · exact h1
 · exact h2
 · exact Nat.le_trans h3 this
end
end Go.Proofs.YtpfplojkiloldaaGreatDoor
namespace Tp
open En
def inB (hi : Str) (x : Ent) : Bool := hi.toList.isEmpty || lt x.1 hi
def ge_ (frm : Str) (x : Ent) : Bool := !lt x.1 frm
def scanF (es : List Ent) (frm hi : Str) : List Ent := es.filter fun x => inB hi x && ge_ frm x
theorem from_filter {frm : Str} : ∀ {es : List Ent}, Srt es -> from_ es frm = es.filter (ge_ frm)
 | [], _ => rfl
 | x :: l, h => by
   obtain ⟨h1, h2⟩ := srt_cons.1 h
   rw [from_cons]
   cases hx : lt x.1 frm with
   | true =>
     rw [if_pos rfl, from_filter h2, List.filter_cons_of_neg (by simp [ge_, hx])]
   | false =>
     rw [if_neg (by simp), List.filter_cons_of_pos (by simp [ge_, hx])]
     congr 1
     refine (List.filter_eq_self.2 fun y hy => ?_).symm
     unfold ge_
     cases hy2 : lt y.1 frm with
     | false => rfl
     | true => rw [lt_trans (h1 y hy) hy2] at hx; cases hx
theorem take_filter {hi : Str} : ∀ {es : List Ent}, Srt es -> es.takeWhile (inB hi) = es.filter (inB hi)
 | [], _ => rfl
 | x :: l, h => by
   obtain ⟨h1, h2⟩ := srt_cons.1 h
   cases hx : inB hi x with
   | true => rw [List.takeWhile_cons_of_pos hx, List.filter_cons_of_pos hx, take_filter h2]
   | false =>
     rw [List.takeWhile_cons_of_neg (by rw [hx]; simp), List.filter_cons_of_neg (by rw [hx]; simp)]
     refine (List.filter_eq_nil_iff.2 fun y hy => ?_).symm
     unfold inB at hx ⊢
     rw [Bool.or_eq_false_iff] at hx
     rw [hx.1, Bool.false_or]
     intro hy2
     rw [lt_trans (h1 y hy) hy2] at hx
     cases hx.2
theorem srt_filter {es : List Ent} (h : Srt es) (p : Ent -> Bool) : Srt (es.filter p) := List.Pairwise.sublist List.filter_sublist h
theorem srt_right {es : List Ent} (h : En.right es = true) : Srt es := ((right_iff es).1 h).2
theorem inB_nil (x : Ent) : inB ⟨#[]⟩ x = true := by
 unfold inB
 rw [Go.Lib.toList_data]; rfl
theorem scan_all {es : List Ent} {frm : Str} (h : Srt es) : scanF es frm ⟨#[]⟩ = from_ es frm := by
 rw [from_filter h]
 unfold scanF
 congr 1
 funext x
 rw [inB_nil, Bool.true_and]
theorem scan_whole {es : List Ent} : scanF es ⟨#[]⟩ ⟨#[]⟩ = es := by
 unfold scanF
 refine List.filter_eq_self.2 fun x _ => ?_
 rw [inB_nil, Bool.true_and]
 unfold ge_ lt
 rw [Go.Lib.toList_data (⟨#[]⟩ : ByteArray)]
 cases x.1.toList <;> rfl
end Tp
namespace Go.Proofs.YtpfplojkiloldaaGreatDoor
open Go.RowKit Go.Shelf
theorem ystep_scan (hi : ByteArray) : ∀ (l acc : List Ent), (Tp.ystep (scanS hi) acc l).1 = acc ++ l.takeWhile (Tp.inB hi)
 | [], acc => by simp [Tp.ystep]
 | x :: l, acc => by
   have hiff : (hi.toList = [] \/ En.lt x.1 hi = true) ↔ Tp.inB hi x = true := by unfold Tp.inB; simp
   rw [Tp.ystep]
   by_cases hx : Tp.inB hi x = true
   · have e : scanS hi acc x = (acc ++ [x], true) := by unfold scanS; rw [if_pos (hiff.2 hx)]
     rw [e, if_pos rfl, ystep_scan hi l, List.takeWhile_cons_of_pos hx, List.append_assoc]
     rfl
   · have e : scanS hi acc x = (acc, false) := by unfold scanS; rw [if_neg (fun h => hx (hiff.1 h))]
     rw [e, if_neg (by simp), List.takeWhile_cons_of_neg hx, List.append_nil]
theorem scan_y {es : List Ent} (h : En.Srt es) (frm hi : ByteArray) : (Tp.ystep (scanS hi) [] (Tp.from_ es frm)).1 = Tp.scanF es frm hi := by
 rw [ystep_scan, List.nil_append, Tp.from_filter h, Tp.take_filter (Tp.srt_filter h _), List.filter_filter]
 rfl
def nextV (l : List Ent) : Ent × Bool := match l with
 | [] => ((⟨#[]⟩, ⟨#[]⟩), false)
 | x :: _ => (x, true)
theorem next_y (l : List Ent) : (Tp.ystep nextS ((⟨#[]⟩, ⟨#[]⟩), false) l).1 = nextV l := by
 cases l with
 | nil => rfl
 | cons x l => rfl
theorem cost_tr {σ : Tp.Pst} {disk : Tp.Disk} : ∀ (h f : Nat) (lo hi : Option En.Str) (s : Tp.Sub), Tp.Tr (σ.view disk) h lo hi s -> Tp.cost Tp.en disk σ f s.id <= s.es.length
 | _, 0, _, _, _, _ => Nat.zero_le _
 | 0, f + 1, lo, hi, s, hs => by
   rw [Tp.cost_eq hs.1]
   exact Nat.le_of_eq (by simp [Tp.en, Tp.costs, Nd.mkLeaf])
 | h + 1, f + 1, lo, hi, s, hs => by
   obtain ⟨subs, keys, a1, a2, a3, a4, a5, a6, a7⟩ := hs
   rw [Tp.cost_eq a1, a4, Tp.es_len]
   show 0 + Tp.costs Tp.en disk σ f (subs.map (·.id)) <= _
   rw [Nat.zero_add]
   unfold Tp.costs
   rw [List.map_map]
   have key : ∀ l : List Tp.Sub, (∀ t ∈ l, t ∈ subs) -> (l.map (Tp.cost Tp.en disk σ f ∘ (·.id))).sum <= (l.map fun t => t.es.length).sum := fun l => by
     induction l with
     | nil => intro _; exact Nat.le_refl _
     | cons t l ih =>
       intro hl
       obtain ⟨l', h', hp⟩ := Tp.chain_all a7 t (hl t List.mem_cons_self)
       have h1 := cost_tr h f l' h' t hp
       have h2 := ih fun u hu => hl u (List.mem_cons_of_mem _ hu)
       rw [List.map_cons, List.sum_cons, List.map_cons, List.sum_cons]
       show Tp.cost Tp.en disk σ f t.id + _ <= _
       omega
   exact key subs fun _ h => h
section
variable {n : Nat} {a : TAd} {root : Int} {σ : Tp.Pst} {ids : List Int} {es : List Ent} {tok : Nat} {w w' : World}
theorem TSt.cost (h : TSt n a root σ ids es tok w) (h0 : root ≠ 0) : Tp.cost Tp.en noDisk σ 24 root <= 1000000 := by
 have hl := h.rt.len
 have ht := h.tl
 rcases h.rt with ⟨rfl, _, _⟩ | ⟨hh, s, rfl, rfl, rfl, q4, q5, q6, q7, q8⟩
 · exact absurd rfl h0
 · have := cost_tr (σ := σ) (disk := noDisk) hh 24 none none s q5; omega
theorem TSt.visit {Q : Type} (h : TSt n a root σ ids es tok w) (h0 : root ≠ 0) (y : Q -> Ent -> Q × Bool) (frm : ByteArray) (q : Q) : Tp.pVisit noDisk σ frm (Tp.ystep y) 24 root q = ((Tp.ystep y q (Tp.from_ es frm)).1, .ok (Tp.ystep y q (Tp.from_ es frm)).2) := by
 have ht := h.tl
 rcases h.rt with ⟨rfl, _, _⟩ | ⟨hh, s, rfl, rfl, rfl, q4, q5, q6, q7, q8⟩
 · exact absurd rfl h0
 · have h8 := Tp.low_of q8 (by omega)
   exact Tp.visit_tr y hh 24 none none s q (by omega) q5
def TScEnd (n : Nat) (a : TAd) (root : Int) (σ : Tp.Pst) (ids : List Int) (es : List Ent) (tok : Nat) (l : List Ent) (w : World) (e : Ending) (w' : World) : Prop :=
 ∃ A c, e = .returned (.tuple #[.slice A l.length c, .int .i64 0]) /\ LO entE 38 w' w.heap.size (.slice A l.length c) l /\ TSt n a root σ ids es tok w' /\ Fr a.S w w'
theorem tst_scan (h : TSt n a root σ ids es tok w) (frm hi : ByteArray) :
   Calls Tryz.prog 16 #[.pointer (some ⟨a.u, 0, none⟩), .string frm, .string hi] w (TScEnd n a root σ ids es tok (Tp.scanF es frm hi) w) := by
 have hs := Tp.srt_right h.rt.right
 have hN : Tp.cost Tp.en noDisk σ 24 root <= 1000000 := by
   by_cases h0 : root = 0
   · subst h0
     rcases h.rt with ⟨_, _, _⟩ | ⟨hh, s, e, rfl, rfl, q4, q5, q6, q7, q8⟩
     · have : σ.view noDisk 0 = none := by
         unfold Tp.Pst.view
         rw [if_neg (fun hm => by have := h.on.tm.ap.hm 0 hm; omega)]
         split <;> rfl
       rw [Tp.cost, this]; exact Nat.zero_le _
     · exfalso
       have := Tp.use_range (room := max (n : Int) 2) h.on.tm.ap (q7 s.id (Tp.tr_id q5))
       omega
   · exact h.cost h0
 refine (scan_any h.mach a.u root frm hi σ (Tp.scanF es frm hi) (Tp.ystep (scanS hi) [] (Tp.from_ es frm)).2 0 w hN (fun h0 => ?_) (fun h0 => ?_) h.on.any).mono ?_
 · subst h0
   rcases h.rt with ⟨_, rfl, _⟩ | ⟨hh, s, e, rfl, rfl, q4, q5, q6, q7, q8⟩
   · rfl
   · exfalso
     have := Tp.use_range (room := max (n : Int) 2) h.on.tm.ap (q7 s.id (Tp.tr_id q5))
     omega
 · rw [h.visit h0, scan_y hs]
 · rintro e w' ⟨A, c, rfl, hr, ho, hf⟩
   exact ⟨A, c, rfl, hr, h.with_ ho, hf⟩
def TNxEnd (n : Nat) (a : TAd) (root : Int) (σ : Tp.Pst) (ids : List Int) (es : List Ent) (tok : Nat) (q : Ent × Bool) (w : World) (e : Ending) (w' : World) : Prop :=
 e = .returned (.tuple #[.agg #[.string q.1.1, .string q.1.2], .bool q.2, .int .i64 0]) /\ TSt n a root σ ids es tok w' /\ Fr a.S w w'
theorem tst_next (h : TSt n a root σ ids es tok w) (frm : ByteArray) :
   Calls Tryz.prog 19 #[.pointer (some ⟨a.u, 0, none⟩), .string frm] w (TNxEnd n a root σ ids es tok (nextV (Tp.scanF es frm ⟨#[]⟩)) w) := by
 have hs := Tp.srt_right h.rt.right
 refine (next_any h.mach a.u root frm σ (nextV (Tp.scanF es frm ⟨#[]⟩)) (Tp.ystep nextS ((⟨#[]⟩, ⟨#[]⟩), false) (Tp.from_ es frm)).2 0 w (fun h0 => ?_) (fun h0 => ?_) h.on.any).mono ?_
 · subst h0
   rcases h.rt with ⟨_, rfl, _⟩ | ⟨hh, s, e, rfl, rfl, q4, q5, q6, q7, q8⟩
   · rfl
   · exfalso
     have := Tp.use_range (room := max (n : Int) 2) h.on.tm.ap (q7 s.id (Tp.tr_id q5))
     omega
 · rw [h.visit h0, next_y, Tp.scan_all hs]
 · rintro e w' ⟨rfl, ho, hf⟩
   exact ⟨rfl, h.with_ ho, hf⟩
end
section
variable {S : Nat -> Prop} {B t : Nat} {room : Int} {disk : Tp.Disk} {TM : Nat -> Tp.Pst -> World -> Prop}
theorem wal_zero (u r : Nat) (σ : Tp.Pst) (w : World) (h : On S B t u TM 0 0 r σ w) :
   Calls Tryz.prog 27 #[.pointer (some ⟨u, 0, none⟩)] w fun e w' => e = .returned (.tuple #[.slice none 0 0, .int .i64 0]) /\ Below w.heap.size w w' := by
 have t1 : w.cell? ⟨u, 1, none⟩ = some (.int .i64 0) := h.self.cell 1
 have t2 : w.cell? ⟨u, 2, none⟩ = some (.int .i64 0) := h.self.cell 2
 have lu := h.self.lt
 clear h
 go_enter Tryz.func27, Tryz.ntmps27
 go_wp2
 go_quiet (fail)
 go_wp2
 go_ret2
 exact ⟨rfl, below_drewN (Below.refl _ _) _⟩
end
section
variable {n : Nat} {a : TAd} {root : Int} {σ : Tp.Pst} {ids : List Int} {es : List Ent} {tok : Nat} {w w' : World}
def WalkP (σ : Tp.Pst) (root : Int) (ids : List Int) (es : List Ent) (tok : Nat) (P : List (Int × Nat × Nd.Node)) : Prop :=
 (root = 0 /\ es = [] /\ P = [] /\ ids = []) \/ ∃ h s, s.id = root /\ s.ids = ids /\ s.es = es /\ s.tok <= tok /\ Tp.Tr (σ.view noDisk) h none none s /\ (h = 0 \/ 2 * 6 ^ (h - 1) <= s.tok) /\ P = Tp.pgL (σ.view noDisk) h 0 root
theorem WalkP.ids_ {P : List (Int × Nat × Nd.Node)} (h : WalkP σ root ids es tok P) : P.map (·.1) = ids := by
 rcases h with ⟨_, _, rfl, rfl⟩ | ⟨h, s, rfl, rfl, rfl, _, ht, _, rfl⟩
 · rfl
 · exact Tp.pgL_ids h 0 none none s ht
theorem WalkP.len {P : List (Int × Nat × Nd.Node)} (h : WalkP σ root ids es tok P) : P.length = ids.length := by rw [<- h.ids_, List.length_map]
def TWkEnd (n : Nat) (a : TAd) (root : Int) (σ : Tp.Pst) (ids : List Int) (es : List Ent) (tok : Nat) (w : World) (e : Ending) (w' : World) : Prop :=
 ∃ A c xs P, e = .returned (.tuple #[.slice A xs.length c, .int .i64 0]) /\ LO pgE 60 w' w.heap.size (.slice A xs.length c) xs /\ PgsAt w.heap.size w' xs P /\ WalkP σ root ids es tok P /\ TSt n a root σ ids es tok w' /\ Fr a.S w w'
theorem tst_walk (h : TSt n a root σ ids es tok w) :
   Calls Tryz.prog 27 #[.pointer (some ⟨a.u, 0, none⟩)] w (TWkEnd n a root σ ids es tok w) := by
 have ht := h.tl
 rcases h.rt with ⟨rfl, rfl, rfl⟩ | ⟨hh, s, rfl, rfl, rfl, q4, q5, q6, q7, q8⟩
 · refine (wal_zero a.u 0 σ w h.on).mono ?_
   rintro e w' ⟨rfl, hb⟩
   exact ⟨none, 0, [], [], rfl, LO.nil_ _ _, PgsAt.nil_ _ _, .inl ⟨rfl, rfl, rfl, rfl⟩, h.below hb, .of_below hb⟩
 · have h8 := Tp.low_of q8 (by omega)
   have hz : s.id ≠ 0 := fun e => by
     have := Tp.use_range (room := max (n : Int) 2) h.on.tm.ap (q7 s.id (Tp.tr_id q5))
     omega
   have hw := Tp.walk_tr (disk := noDisk) (σ := σ) hh 24 none none s [] (by omega) (Nat.le_refl _) q5
   rw [List.nil_append, Nat.sub_self] at hw
   have hfew := h.rt.few
   have hl : (Tp.pgL (σ.view noDisk) hh 0 s.id).length <= 100000 := by
     rw [Tp.pgL_len q5]
     have h1 := h.mineLen
     have h2 := (ap_small h.on.tm.ap).2
     omega
   refine (wal_any h.mach a.u s.id hz σ _ 0 w hw hl h.on.any).mono ?_
   rintro e w' ⟨A, c, xs, rfl, hr, hp, ho, hf⟩
   exact ⟨A, c, xs, _, rfl, hr, hp, .inr ⟨hh, s, rfl, rfl, rfl, q4, q5, q8, rfl⟩, h.with_ ho, hf⟩
end
theorem cost_rd {σ : Tp.Pst} {disk : Tp.Disk} : ∀ (h f : Nat) (lo hi : Option En.Str) (s : Tp.Sub), Tp.Tr (σ.view disk) h lo hi s -> Tp.cost Tp.rd disk σ f s.id <= 2 * s.ids.length
 | _, 0, _, _, _, _ => Nat.zero_le _
 | 0, f + 1, lo, hi, s, hs => by
   rw [Tp.cost_eq hs.1, hs.2.1]
   exact Nat.le_of_eq (by simp [Tp.rd, Tp.costs, Nd.mkLeaf])
 | h + 1, f + 1, lo, hi, s, hs => by
   obtain ⟨subs, keys, a1, a2, a3, a4, a5, a6, a7⟩ := hs
   rw [Tp.cost_eq a1, a3]
   show 2 + Tp.costs Tp.rd disk σ f (subs.map (·.id)) <= _
   unfold Tp.costs
   rw [List.map_map]
   have key : ∀ (l : List Tp.Sub), (∀ t ∈ l, t ∈ subs) -> (l.map (Tp.cost Tp.rd disk σ f ∘ (·.id))).sum <= 2 * (Tp.ids_ l).length := by
     intro l
     induction l with
     | nil => intro _; exact Nat.zero_le _
     | cons t l ih =>
       intro hl
       obtain ⟨l', h', hp⟩ := Tp.chain_all a7 t (hl t List.mem_cons_self)
       have h1 := cost_rd h f l' h' t hp
       have h2 := ih fun u hu => hl u (List.mem_cons_of_mem _ hu)
       have e : Tp.ids_ (t :: l) = t.ids ++ Tp.ids_ l := by unfold Tp.ids_; rw [List.flatMap_cons]
       rw [e, List.length_append, List.map_cons, List.sum_cons]
       show Tp.cost Tp.rd disk σ f t.id + _ <= _
       omega
   have := key subs fun _ h => h
   rw [List.length_cons]
   omega
theorem tmd_start {F : FFile} {n N : Nat} {disk : Tp.Disk} {w : World} {R : Int} (hF : F.At w R) (hR : 0 <= R) (r : Nat) (hRr : R + (r : Nat) <= 900000) (ho : FOn F n disk N) (hN : N < 1000000) (hT : HT w) (hB0 : 0 < F.B) (hBw : F.B <= w.heap.size)
   (A : Option Addr) (c : Nat) (l : List Run) (pages : Int) (hr : RS w w.heap.size A l) (hl : l.length <= 50000) (hfd : ∀ id x, disk id = some x -> id < pagesN pages n /\ ¬ Rp.Mem l id) :
   Calls Tryz.prog 34 #[.pointer (some ⟨F.f, 0, none⟩), .slice A l.length c, .int .i64 pages] w fun e w' => ∃ t m, e = .returned (.pointer (some ⟨t, 0, none⟩)) /\ TMd F w'.heap.size t m n (Rp.minus [(2, pagesN pages n - 1)] l) disk r ⟨Rp.meet l [(2, pagesN pages n - 1)], pagesN pages n, [], fun _ => none⟩ w' /\ (w.heap.size <= t /\ w.heap.size <= m /\ F.d < w'.heap.size) /\ Below w.heap.size w w' := by
 obtain ⟨cc, c1, c2⟩ := ho.c
 have hsz := c1.ok.size
 have hfo := hF.fileOf
 rw [hsz] at hfo
 refine (tnew_any F.f n A c l pages ho.hn w hfo hr hl).mono ?_
 rintro e w' ⟨t, m, rfl, ⟨ht, hm⟩, hT', hb⟩
 have hp : 2 <= pagesN pages n /\ pagesN pages n <= max (n : Int) 2 /\ max (n : Int) 2 <= 100000 := by have := ho.hn; unfold pagesN; omega
 have htl : t < w'.heap.size := by obtain ⟨_, ⟨v, h2, _⟩, _⟩ := hT'; exact h2.lt
 have hml : m < w'.heap.size := by obtain ⟨_, _, es, c, h2, _⟩ := hT'; exact (Array.getElem?_eq_some_iff.1 h2).1
 have hlow := hF.low
 refine ⟨t, m, rfl, ⟨⟨htl, hml, Nat.le_refl _⟩, fun g hg => ?_, ⟨hB0, by omega, by omega⟩, hT.below hb (by have := hT.1; omega), ⟨Rp.Ap.start l hp, fun id hi => absurd hi List.not_mem_nil, .map [], hT', KeysAre.nil_, fun id hi => absurd hi List.not_mem_nil⟩, ho.on hN (fun id x hx => ?_), R, hR, hRr, hF.fr (S := fun _ => False) (.of_below hb) (fun _ _ a => a)⟩, ⟨ht, hm, ?_⟩, hb⟩
 · have := hlow g hg
   omega
 · obtain ⟨g1, g2⟩ := hfd id x hx
   obtain ⟨g3, g4, g5⟩ := c2 id x hx
   have hno : ¬ id < 2 /\ ¬ (n : Int) <= id := by simpa [noPage] using g4
   exact ((Rp.minus_ok [(2, pagesN pages n - 1)] l).2 id).2 ⟨by omega, by unfold Rp.Most; omega, Rp.mem_two.2 ⟨by omega, g1⟩, g2⟩
 · have := hlow F.d (.inr (.inl rfl)); have := hb.size; omega
structure FSt (F : FFile) (n : Nat) (a : TAd) (used : List Run) (disk : Tp.Disk) (root : Int) (σ : Tp.Pst) (ids : List Int) (es : List Ent) (tok r : Nat) (w : World) : Prop where
 on : On (SD F a.t a.m) a.B a.t a.u (TMd F a.B a.t a.m n used disk) root 0 r σ w
 hd : F.d < a.B
 rt : Tp.RootAt disk used σ root es tok ids
 mine : ∀ x, x ∈ σ.mine -> x ∈ ids
 tl : tok <= 200000
def FU (F : FFile) (a : TAd) (k : Nat) : Prop := SD F a.t a.m k \/ k = a.u
section
variable {F : FFile} {n : Nat} {a : TAd} {used : List Run} {disk : Tp.Disk} {root : Int} {σ : Tp.Pst} {ids : List Int} {es : List Ent} {tok r r' : Nat} {w w' : World}
theorem FSt.mach (h : FSt F n a used disk root σ ids es tok r w) : Mach (SD F a.t a.m) a.B a.t (max (n : Int) 2) disk (TMd F a.B a.t a.m n used disk) := mach_disk F h.on.tm.low.1 h.on.tm.low.2.1 h.hd n used disk
theorem FSt.below (h : FSt F n a used disk root σ ids es tok r w) (hb : Below w.heap.size w w') : FSt F n a used disk root σ ids es tok r w' := ⟨h.on.below h.mach hb, h.hd, h.rt, h.mine, h.tl⟩
theorem FSt.less (h : FSt F n a used disk root σ ids es tok r w) (hr : r' <= r) : FSt F n a used disk root σ ids es tok r' w := ⟨h.on.less h.mach hr, h.hd, h.rt, h.mine, h.tl⟩
theorem FSt.with_ (h : FSt F n a used disk root σ ids es tok r w) (ho : On (SD F a.t a.m) a.B a.t a.u (TMd F a.B a.t a.m n used disk) root 0 r' σ w') : FSt F n a used disk root σ ids es tok r' w' := ⟨ho, h.hd, h.rt, h.mine, h.tl⟩
theorem FSt.low (h : FSt F n a used disk root σ ids es tok r w) : ∀ k, FU F a k -> k < w.heap.size := fun k hk => by
 have h1 := h.on.tm.low
 rcases hk with hk | rfl
 · have := h.mach.low k hk; omega
 · exact h.on.self.lt
theorem FSt.nodup (h : FSt F n a used disk root σ ids es tok r w) : ids.Nodup := by
 rcases h.rt with ⟨_, _, rfl⟩ | ⟨_, s, _, _, _, _, _, q, _⟩
 · exact List.nodup_nil
 · exact q
theorem FSt.mineLen (h : FSt F n a used disk root σ ids es tok r w) : σ.mine.length <= ids.length := List.Nodup.length_le_of_subset h.on.tm.mem.ap.nd (fun x hx => h.mine x hx)
theorem FSt.nz (h : FSt F n a used disk root σ ids es tok r w) {x : Int} (hx : Tp.Use used σ x) : x ≠ 0 := fun e => by
 have := Tp.use_range (room := max (n : Int) 2) h.on.tm.mem.ap hx
 omega
theorem FSt.find (h : FSt F n a used disk root σ ids es tok r w) (k : ByteArray) : Tp.pFind disk σ k 24 root = .ok (En.get es k) := by
 rcases h.rt with ⟨rfl, rfl, rfl⟩ | ⟨hh, s, rfl, rfl, rfl, q4, q5, q6, q7, q8⟩
 · rfl
 · have hz : s.id ≠ 0 := h.nz (q7 s.id (Tp.tr_id q5))
   have h8 := Tp.low_of q8 (by have := h.tl; omega)
   exact Tp.find_tr hh 24 none none s (by omega) q5 hz (fun a h => by cases h) (fun a h => by cases h)
def WalkD (disk : Tp.Disk) (σ : Tp.Pst) (root : Int) (ids : List Int) (es : List Ent) (tok : Nat) (P : List (Int × Nat × Nd.Node)) : Prop :=
 (root = 0 /\ es = [] /\ P = [] /\ ids = []) \/ ∃ h s, s.id = root /\ s.ids = ids /\ s.es = es /\ s.tok <= tok /\ Tp.Tr (σ.view disk) h none none s /\ (h = 0 \/ 2 * 6 ^ (h - 1) <= s.tok) /\ P = Tp.pgL (σ.view disk) h 0 root
theorem WalkD.ids_ {P : List (Int × Nat × Nd.Node)} (h : WalkD disk σ root ids es tok P) : P.map (·.1) = ids := by
 rcases h with ⟨_, _, rfl, rfl⟩ | ⟨h, s, rfl, rfl, rfl, _, ht, _, rfl⟩
 · rfl
 · exact Tp.pgL_ids h 0 none none s ht
theorem WalkD.len {P : List (Int × Nat × Nd.Node)} (h : WalkD disk σ root ids es tok P) : P.length = ids.length := by rw [<- h.ids_, List.length_map]
def FWkEnd (F : FFile) (n : Nat) (a : TAd) (used : List Run) (disk : Tp.Disk) (root : Int) (σ : Tp.Pst) (ids : List Int) (es : List Ent) (tok r : Nat) (w : World) (e : Ending) (w' : World) : Prop :=
 ∃ A c xs P, e = .returned (.tuple #[.slice A xs.length c, .int .i64 0]) /\ LO pgE 60 w' w.heap.size (.slice A xs.length c) xs /\ PgsAt w.heap.size w' xs P /\ WalkD disk σ root ids es tok P /\ FSt F n a used disk root σ ids es tok r w' /\ Fr (SD F a.t a.m) w w'
theorem fst_walk (h : FSt F n a used disk root σ ids es tok (r + 2 * ids.length) w) :
   Calls Tryz.prog 27 #[.pointer (some ⟨a.u, 0, none⟩)] w (FWkEnd F n a used disk root σ ids es tok r w) := by
 have ht := h.tl
 have h0 := h.less (r' := r) (by omega)
 rcases h.rt with ⟨rfl, rfl, rfl⟩ | ⟨hh, s, rfl, rfl, rfl, q4, q5, q6, q7, q8⟩
 · refine (wal_zero a.u r σ w h0.on).mono ?_
   rintro e w' ⟨rfl, hb⟩
   exact ⟨none, 0, [], [], rfl, LO.nil_ _ _, PgsAt.nil_ _ _, .inl ⟨rfl, rfl, rfl, rfl⟩, h0.below hb, .of_below hb⟩
 · have h8 := Tp.low_of q8 (by omega)
   have hz : s.id ≠ 0 := h.nz (q7 s.id (Tp.tr_id q5))
   have hw := Tp.walk_tr (disk := disk) (σ := σ) hh 24 none none s [] (by omega) (Nat.le_refl _) q5
   rw [List.nil_append, Nat.sub_self] at hw
   have hfew := h.rt.few
   have hcost := cost_rd (σ := σ) (disk := disk) hh 24 none none s q5
   have hl : (Tp.pgL (σ.view disk) hh 0 s.id).length <= 300000 := by
     rw [Tp.pgL_len q5]
     omega
   have hl2 : (Tp.pgL (σ.view disk) hh 0 s.id).length <= 100000 := by
     rw [Tp.pgL_len q5]
     have hr2 : ∀ x ∈ s.ids, 2 <= x /\ x < max (n : Int) 2 := fun x hx => Tp.use_range h.on.tm.mem.ap (q7 x hx)
     have hsub : s.ids ⊆ (List.range 100000).map (fun i : Nat => (2 : Int) + (i : Int)) := fun x hx => by
       have h1 := hr2 x hx
       have h3 := h.on.tm.mem.ap.pg
       exact List.mem_map.2 ⟨(x - 2).toNat, List.mem_range.2 (by omega), by omega⟩
     have := List.Nodup.length_le_of_subset q6 hsub
     simpa using this
   refine (wal_any h.mach a.u s.id hz σ _ r w hw hl2 (h.less (by omega)).on).mono ?_
   rintro e w' ⟨A, c, xs, rfl, hr, hp, ho, hf⟩
   exact ⟨A, c, xs, _, rfl, hr, hp, .inr ⟨hh, s, rfl, rfl, rfl, q4, q5, q8, rfl⟩, h.with_ ho, hf⟩
end
end Go.Proofs.YtpfplojkiloldaaGreatDoor
namespace Tp
open Nd En
theorem tr_some {v : Int -> Option Node} : ∀ {h : Nat} {lo hi : Option Str} {s : Sub}, Tr v h lo hi s -> ∀ x ∈ s.ids, ∃ n, v x = some n
 | 0, _, _, s, hs, x, hx => by
   obtain ⟨a, b, _⟩ := hs
   rw [b] at hx
   obtain rfl : x = s.id := by simpa using hx
   exact ⟨_, a⟩
 | h + 1, _, _, s, hs, x, hx => by
   obtain ⟨subs, keys, a, b, c, d, e, f, g⟩ := hs
   rw [c] at hx
   rcases List.mem_cons.1 hx with rfl | hx
   · exact ⟨_, a⟩
   · unfold ids_ at hx
     obtain ⟨t, ht, hx⟩ := List.mem_flatMap.1 hx
     obtain ⟨l, h', hp⟩ := chain_all g t ht
     exact tr_some hp x hx
def VerAt (disk : Disk) (root : Int) (es : List En.Ent) (tok : Nat) (ids : List Int) : Prop :=
 (root = 0 /\ es = [] /\ ids = []) \/ ∃ h s, s.id = root /\ s.ids = ids /\ s.es = es /\ s.tok <= tok /\ Tr disk h none none s /\ ids.Nodup /\ (h = 0 \/ 2 * 6 ^ (h - 1) <= s.tok)
variable {disk disk' : Disk} {root : Int} {es : List En.Ent} {tok tok' : Nat} {ids : List Int} {used : List Run} {σ : Pst} {room : Int}
theorem VerAt.none_ (disk : Disk) (tok : Nat) : VerAt disk 0 [] tok [] := .inl ⟨rfl, rfl, rfl⟩
theorem VerAt.congr (h : VerAt disk root es tok ids) (hd : ∀ x ∈ ids, disk' x = disk x) : VerAt disk' root es tok ids := by
 rcases h with h | ⟨hh, s, a, rfl, c, d, e, f⟩
 · exact .inl h
 · exact .inr ⟨hh, s, a, rfl, c, d, tr_congr hd e, f⟩
theorem VerAt.some_ (h : VerAt disk root es tok ids) : ∀ x ∈ ids, ∃ n, disk x = some n := by
 rcases h with ⟨_, _, rfl⟩ | ⟨hh, s, a, rfl, c, d, e, f⟩
 · exact fun x hx => absurd hx List.not_mem_nil
 · exact tr_some e
theorem VerAt.rootAt (h : VerAt disk root es tok ids) (hv : ∀ x ∈ ids, σ.view disk x = disk x) (hu : ∀ x ∈ ids, Use used σ x) : RootAt disk used σ root es tok ids := by
 rcases h with h | ⟨hh, s, a, rfl, c, d, e, f, g⟩
 · exact .inl h
 · exact .inr ⟨hh, s, a, rfl, c, d, tr_congr hv e, f, hu, g⟩
theorem RootAt.ver (h : RootAt disk used σ root es tok ids) (hv : ∀ x ∈ ids, disk' x = σ.view disk x) : VerAt disk' root es tok ids := by
 rcases h with h | ⟨hh, s, a, rfl, c, d, e, f, u, g⟩
 · exact .inl h
 · exact .inr ⟨hh, s, a, rfl, c, d, tr_congr hv e, f, g⟩
theorem RootAt.some_ (h : RootAt disk used σ root es tok ids) : ∀ x ∈ ids, ∃ n, σ.view disk x = some n := by
 rcases h with ⟨_, _, rfl⟩ | ⟨hh, s, a, rfl, c, d, e, f⟩
 · exact fun x hx => absurd hx List.not_mem_nil
 · exact tr_some e
theorem RootAt.uses (h : RootAt disk used σ root es tok ids) : ∀ x ∈ ids, Use used σ x := by
 rcases h with ⟨_, _, rfl⟩ | ⟨hh, s, a, rfl, c, d, e, f, u, g⟩
 · exact fun x hx => absurd hx List.not_mem_nil
 · exact u
def start (l : List Run) (p : Int) : Pst := ⟨Rp.meet l [(2, p - 1)], p, [], fun _ => none⟩
theorem start_view {l : List Run} {p x : Int} (h2 : 2 <= x) (hp : x < p) (hl : ¬ Rp.Mem l x) : (start l p).view disk x = disk x := by
 unfold Pst.view start
 rw [if_neg List.not_mem_nil, if_pos ⟨h2, hp, Rp.has_used fun hm => hl (((Rp.meet_ok l [(2, p - 1)]).2 x).1 hm).2.2.1⟩]
theorem start_use {l : List Run} {p x : Int} (h2 : 2 <= x) (hp : x < p) (hm : x <= Rp.Most) (hl : ¬ Rp.Mem l x) : Use (Rp.minus [(2, p - 1)] l) (start l p) x :=
 .inr (((Rp.minus_ok [(2, p - 1)] l).2 x).2 ⟨by omega, by exact hm, Rp.mem_two.2 ⟨h2, hp⟩, hl⟩)
end Tp
namespace Go.Proofs.YtpfplojkiloldaaGreatDoor
open Go.RowKit Go.Shelf
section
variable {S : Nat -> Prop} {B t : Nat} {room : Int} {disk : Tp.Disk} {TM : Nat -> Tp.Pst -> World -> Prop}
end
end Go.Proofs.YtpfplojkiloldaaGreatDoor
