/- The walk of cowtree's walk. The walk of cowtree's Walk. Plain: a tree's pages in Walk's order; how many they are; a tree of one page. A law's tree in memory: what it stands for; Put, Delete, Get. What a law's tree answers to Scan, Next. The walk of cowtree's Walk where there is no root; what a law's tree answers to Walk. A row of pages, read; the tree's pages are few and low. Plain law of TreeOrder: what is put in another order is the same. -/
import Derived.BigQuiet
import Derived.Test.YtpfplojkiloldaaGreatDoorQ38
import Derived.Test.YtpfplojkiloldaaGreatDoorQ40
namespace Go.Proofs.YtpfplojkiloldaaGreatDoor
open Go.RowKit Go.Shelf
def WkEnd (S : Nat → Prop) (B t u : Nat) (TM : Nat → Tp.Pst → World → Prop) (root : Int) (r : Nat) (σ : Tp.Pst) (lo : Nat) (own : Option Nat) (l' : List (Int × Nat × Nd.Node)) (w : World) (e : Ending) (w' : World) : Prop :=
  ∃ A' c' xs', e = .returned (.tuple #[.slice A' xs'.length c', .int .i64 0]) ∧ LO pgE 60 w' lo (.slice A' xs'.length c') xs' ∧ PgsAt lo w' xs' l' ∧ On S B t u TM root 0 r σ w' ∧ Fr (fun k => S k ∨ own = some k) w w' ∧ ∀ k, (Value.slice A' xs'.length c').ownBlock = some k → own = some k ∨ w.heap.size ≤ k
section
variable {S : Nat → Prop} {B t : Nat} {room : Int} {disk : Tp.Disk} {TM : Nat → Tp.Pst → World → Prop}
set_option maxRecDepth 100000 in
set_option maxHeartbeats 2000000 in
theorem walk_any (M : Mach S B t room disk TM) (u : Nat) (root : Int) (σ : Tp.Pst) (lo : Nat) (hlo : B ≤ lo) : ∀ (f d : Nat) (id : Int) (l l' : List (Int × Nat × Nd.Node)) (xs : List RawPg) (A : Option Addr) (c r : Nat) (w : World), d + f = 24 → Tp.pWalk disk σ f l id = (l', 0) → l'.length ≤ 100000 → LO pgE 60 w lo (.slice A xs.length c) xs → PgsAt lo w xs l → lo ≤ w.heap.size → On S B t u TM root 0 (r + Tp.cost Tp.rd disk σ f id) σ w →
    Calls Tryz.prog 53 #[.pointer (some ⟨u, 0, none⟩), .slice A xs.length c, .int .i64 id, .int .i64 (d : Nat)] w (WkEnd S B t u TM root r σ lo (Value.slice A xs.length c).ownBlock l' w) := by
  intro f
  induction f with
  | zero => intro d id l l' xs A c r w hd h; rw [Tp.pWalk] at h; simp at h
  | succ f ih =>
    intro d id l l' xs A c r w hd hwk hl' hrow hpg hlw h
    obtain ⟨f', n, e, hv, hgo⟩ := walk_view hwk
    obtain rfl : f' = f := by omega
    have hdd : 24 - (f' + 1) = d := by omega
    rw [hdd] at hgo
    have hll : l.length + 1 ≤ 100000 := by
      have h1 := walkKids_len (walk_len disk σ f') n.kids (l ++ [(id, d, n)])
      rw [hgo, List.length_append] at h1
      simp only [List.length_singleton] at h1
      omega
    have hxl : xs.length + 1 ≤ 100000 := by have := hpg.1; omega
    clear hwk
    rw [Tp.cost_eq hv, show Tp.rd n = 2 from rfl] at h
    obtain ⟨cst, hcst⟩ : ∃ c, c = Tp.costs Tp.rd disk σ f' n.kids := ⟨_, rfl⟩
    rw [← hcst] at h
    have hfit := (M.ht h.tm hv).1
    have hkl : n.kids.length ≤ 100000 := (fits_nb hfit).i
    have HLD := Lib.hid (load_any M u root 0 (r + cst) σ id d n hv (by omega) w (h.less M (by omega)))
    have hsz := M.size h.tm
    have hun : u < w.heap.size := h.self.lt
    have hSlo : ∀ k, S k → k < lo := fun k a => Nat.lt_of_lt_of_le (M.low k a) hlo
    have HIH := Lib.hid ih
    have HM := Lib.hid M
    have HGO := Lib.hid hgo
    have HC := Lib.hid hcst
    have HROW := Lib.hid hrow
    have HPG := Lib.hid hpg
    have HSL := Lib.hid hSlo
    clear h hv hfit hgo ih M hcst e hrow hpg hSlo
    go_enter Tryz.func53, Tryz.ntmps53
    go_wp2_with fail
    refine Calls.mono HLD.out ?_
    rintro e w1 ⟨v, rfl, hnf, hon1, hf1⟩
    obtain ⟨N1, c1, N2, c2, N3, c3, rfl, rn⟩ := hnf
    have hz1 := hf1.size
    have hb2 := (Below.refl w1.heap.size w1).alloc (Nat.le_refl _) (.cells #[.bool n.leaf, .slice N1 n.ents.length c1, .slice N2 n.kids.length c2, .slice N3 n.keys.length c3] 58)
    have hF2 : Fr S w _ := hf1.trans (.of_below hb2)
    have hon2 := hon1.below HM.out hb2
    have hBn := Blk.new w1 58 #[.bool n.leaf, .slice N1 n.ents.length c1, .slice N2 n.kids.length c2, .slice N3 n.keys.length c3]
    have hNF := NF.below (lo := w.heap.size) (v := .agg #[.bool n.leaf, .slice N1 n.ents.length c1, .slice N2 n.kids.length c2, .slice N3 n.keys.length c3]) ⟨N1, c1, N2, c2, N3, c3, rfl, rn⟩ hb2
    have hR2 : LO pgE 60 _ lo _ xs := HROW.out.fr hF2 HSL.out
    have hP2 := HPG.out.fr hF2 HSL.out
    unfold nodeV
    have g0 := hBn.cell 0
    have g1 := hBn.cell 1
    have g2 := hBn.cell 2
    have g3 := hBn.cell 3
    have ln := hBn.lt
    have row : World.ownsRow _ lo 60 6 (.slice A xs.length c) xs.length (pgE.cells xs) := hR2
    have hbase := Nat.le_trans hlw hF2.size
    have HBn := Lib.hid hBn
    have HF2 := Lib.hid hF2
    have HON2 := Lib.hid hon2
    have HNF := Lib.hid hNF
    have HR2 := Lib.hid hR2
    have HP2 := Lib.hid hP2
    have HRN := Lib.hid rn
    have HBB := Lib.hid hb2
    clear hb2 hon1 hon2 hf1 rn hBn hNF hF2 hR2 hP2
    go_wp2_with (at_builtin; refine wpList_app1 rfl _ _ 52 rfl eiPg Tryz.underlying52 rfl (by decide) rfl row rfl (by simp) rfl (by simp [Value.oneCell']) (by unfold maxLen; omega) (by omega) hbase ?_; intro v' w3 hown' hgrow hbel hob _; obtain ⟨A1, k1, rfl⟩ := own_form hown'; have hB3 := HBn.out.grown hgrow (fun e => own_blk_ne row HBn.out (by decide) e.symm); have b2 : w3.cell? ⟨w1.heap.size, 2, none⟩ = some (.slice N2 n.kids.length c2) := hB3.cell 2; have b3 := hB3.lt; have HT := Lib.hid (And.intro hown' (And.intro hgrow hob)); clear hB3 hown' hgrow hob hbel)
    obtain ⟨hown', hgrow, hob⟩ := HT.out
    have hr3 : LO pgE 60 w3 lo (.slice A1 (xs.length + 1) k1) (xs ++ [⟨id, d, n.leaf, N1, n.ents.length, c1, N2, n.kids.length, c2, N3, n.keys.length, c3⟩]) := LO.snoc rfl rfl rfl hown'
    have hp3 : PgsAt lo w3 (xs ++ [⟨id, d, n.leaf, N1, n.ents.length, c1, N2, n.kids.length, c2, N3, n.keys.length, c3⟩]) (l ++ [(id, d, n)]) := (HP2.out.row2 row hgrow).snoc ⟨rfl, rfl, (HNF.out.row2 row hgrow).lower hlw⟩
    have hon3 := HON2.out.row HM.out row hlo (by decide) (by decide) (by decide) (by decide) (by decide) hgrow
    have hk3 := ((LO.below HRN.out.2.1 HBB.out).row2 row (by decide) hgrow).sv
    have hxl1 : (xs ++ [(⟨id, d, n.leaf, N1, n.ents.length, c1, N2, n.kids.length, c2, N3, n.keys.length, c3⟩ : RawPg)]).length = xs.length + 1 := by simp
    rw [← hxl1] at hr3 hob ⊢
    have hkl3 := (LO.below HRN.out.2.1 HBB.out).row2 row (by decide) hgrow
    have hne : ∀ b, (Value.slice N2 n.kids.length c2).ownBlock = some b → (Value.slice A1 (xs ++ [(⟨id, d, n.leaf, N1, n.ents.length, c1, N2, n.kids.length, c2, N3, n.keys.length, c3⟩ : RawPg)]).length k1).ownBlock ≠ some b := fun b hb => own_neq hkl3 hr3 (by decide) hb
    have hfar : ∀ b off, N2 = some ⟨b, off, none⟩ → (Value.slice N2 n.kids.length c2).ownBlock = some b ∧ w.heap.size ≤ b ∧ b < w3.heap.size := fun b off e => by
      rcases hkl3.2 with ⟨e1, _⟩ | ⟨g, cap, cur, e1, e2, e3, _⟩
      · injection e1 with e1; rw [e1] at e; cases e
      · injection e1 with e1; rw [e1] at e; injection e with e; injection e with e; subst e; subst e1; exact ⟨rfl, e2, (Array.getElem?_eq_some_iff.1 e3).1⟩
    have hF3 : Fr (fun k => S k ∨ (Value.slice A xs.length c).ownBlock = some k) w w3 := (HF2.out.more fun _ => .inl).trans ((Fr.of_grown hgrow).more fun _ => .inr)
    have hob3 : ∀ k, (Value.slice A1 (xs ++ [(⟨id, d, n.leaf, N1, n.ents.length, c1, N2, n.kids.length, c2, N3, n.keys.length, c3⟩ : RawPg)]).length k1).ownBlock = some k → (Value.slice A xs.length c).ownBlock = some k ∨ w.heap.size ≤ k := fun k hk => by
      rcases hob with e | ⟨g, e, hg⟩
      · exact .inl (e ▸ hk)
      · rw [e] at hk; injection hk with hk; subst hk; exact .inr (Nat.le_trans HF2.out.size hg)
    have HK3 := Lib.hid hk3
    have HNE := Lib.hid hne
    have HFAR := Lib.hid hfar
    have HF3 := Lib.hid hF3
    have HOB3 := Lib.hid hob3
    have HR3 := Lib.hid hr3
    have HP3 := Lib.hid hp3
    have HON3 := Lib.hid (hon3.less HM.out (show r + Tp.costs Tp.rd disk σ f' (n.kids.drop 0) ≤ r + cst by rw [HC.out]; exact Nat.le_refl _))
    generalize (xs ++ [(⟨id, d, n.leaf, N1, n.ents.length, c1, N2, n.kids.length, c2, N3, n.keys.length, c3⟩ : RawPg)]) = xs1 at *
    clear hown' hgrow hob hr3 hp3 hon3 hk3 hxl1 hkl3 hne hfar hF3 hob3 HT row g0 g1 g2 g3 ln hbase b2 b3
    go_loopg [1, 35] n.kids.length (fun g s1 s35 wr => ∃ (j : Nat) (xj : List RawPg) (Aj : Option Addr) (cj : Nat) (lj : List (Int × Nat × Nd.Node)), s1 = .slice Aj xj.length cj ∧ s35 = .int .i64 (j : Nat) ∧ j ≤ n.kids.length ∧ n.kids.length - j ≤ g ∧ Hid (Tp.pWalkKids (Tp.pWalk disk σ f') (n.kids.drop j) lj = (l', 0)) ∧ Hid (LO pgE 60 wr lo (.slice Aj xj.length cj) xj) ∧ Hid (PgsAt lo wr xj lj) ∧ Hid (On S B t u TM root 0 (r + Tp.costs Tp.rd disk σ f' (n.kids.drop j)) σ wr) ∧ Hid (Fr (fun k => S k ∨ (Value.slice A xs.length c).ownBlock = some k) w wr) ∧ Hid (∀ k, (Value.slice Aj xj.length cj).ownBlock = some k → (Value.slice A1 xs1.length k1).ownBlock = some k ∨ w3.heap.size ≤ k) ∧ Hid (w3.heap.size ≤ wr.heap.size ∧ ∀ b off, N2 = some ⟨b, off, none⟩ → wr.heap[b]? = w3.heap[b]?))
    case atStart => exact ⟨0, xs1, A1, k1, l ++ [(id, d, n)], rfl, rfl, Nat.zero_le _, by omega, HGO, HR3, HP3, HON3, HF3, Lib.hid (fun k a => .inl a), Lib.hid ⟨Nat.le_refl _, fun _ _ _ => rfl⟩⟩
    case round =>
      obtain ⟨j, xj, Aj, cj, lj, rfl, rfl, hjk, hjg, HGJ, HRJ, HPJ, HONJ, HFJ, HOJ, HBJ⟩ := hrel
      by_cases hj : j < n.kids.length
      · obtain ⟨bb, oo, rfl, hbb, kc⟩ := HK3.out.ls.int hj
        have hcell : wr.cell? ⟨bb, oo + j, none⟩ = some (.int .i64 (n.kids[j]'hj)) := by
          rw [← kc]
          unfold World.cell?
          rw [HBJ.out.2 bb oo rfl]
        have hbl : bb < wr.heap.size := Nat.lt_of_lt_of_le hbb HBJ.out.1
        obtain ⟨l1, hwj, hgj⟩ := walkKids_at hj HGJ.out
        have hon := HONJ.out
        rw [Tp.costs_drop n.kids j hj, show r + (Tp.cost Tp.rd disk σ f' n.kids[j] + Tp.costs Tp.rd disk σ f' (n.kids.drop (j + 1))) = r + Tp.costs Tp.rd disk σ f' (n.kids.drop (j + 1)) + Tp.cost Tp.rd disk σ f' n.kids[j] by omega] at hon
        have hl1 : l1.length ≤ 100000 := by
          have h1 := walkKids_len (walk_len disk σ f') (n.kids.drop (j + 1)) l1
          rw [hgj] at h1
          exact Nat.le_trans h1 hl'
        have hcall := HIH.out (d + 1) (n.kids[j]'hj) lj l1 xj Aj cj (r + Tp.costs Tp.rd disk σ f' (n.kids.drop (j + 1))) wr (by omega) hwj hl1 HRJ.out HPJ.out (Nat.le_trans hlw HFJ.out.size) hon
        rw [show ((d + 1 : Nat) : Int) = (d : Int) + 1 by omega] at hcall
        have HCALL := Lib.hid hcall
        have hwd : IntKind.i64.wrap ((d : Int) + 1) = (d : Int) + 1 := IntWalk.i64_in _ (by omega)
        have hwj1 : IntKind.i64.wrap ((j : Int) + 1) = (j : Int) + 1 := IntWalk.i64_in _ (by omega)
        have hji : (j : Int) < (n.kids.length : Nat) := by omega
        have HGJ1 := Lib.hid hgj
        generalize n.kids[j]'hj = kid at *
        clear hcall hon hwj hgj hl1 kc
        go_wp2_with fail
        refine Calls.mono HCALL.out ?_
        rintro e w4 ⟨A4, c4, x4, rfl, hr4, hp4, hon4, hf4, ho4⟩
        have hF4 := HFJ.out.go hf4 (fun k a => by
          rcases a with a | a
          · exact .inl (.inl a)
          · rcases HOJ.out k a with a | a
            · rcases HOB3.out k a with a | a
              · exact .inl (.inr a)
              · exact .inr a
            · exact .inr (Nat.le_trans HF3.out.size a))
        have HR4 := Lib.hid hr4
        have HP4 := Lib.hid hp4
        have HON4 := Lib.hid hon4
        have HF4 := Lib.hid hF4
        have HO4 : Hid (∀ k, (Value.slice A4 x4.length c4).ownBlock = some k → (Value.slice A1 xs1.length k1).ownBlock = some k ∨ w3.heap.size ≤ k) := Lib.hid (fun k hk => by
          rcases ho4 k hk with a | a
          · exact HOJ.out k a
          · exact .inr (Nat.le_trans HBJ.out.1 a))
        have HB4 : Hid (w3.heap.size ≤ w4.heap.size ∧ ∀ b off, (some ⟨bb, oo, none⟩ : Option Addr) = some ⟨b, off, none⟩ → w4.heap[b]? = w3.heap[b]?) := Lib.hid ⟨Nat.le_trans HBJ.out.1 hf4.size, fun b off e => by
          obtain ⟨q1, q2, q3⟩ := HFAR.out b off e
          refine (hf4.block b (Nat.lt_of_lt_of_le q3 HBJ.out.1) (fun a => ?_)).trans (HBJ.out.2 b off e)
          rcases a with a | a
          · exact HM.out.far (Nat.le_trans hsz q2) a
          · rcases HOJ.out b a with a | a
            · exact HNE.out b q1 a
            · omega⟩
        clear hr4 hp4 hon4 hf4 ho4 hF4
        go_wp2
        go_roundg (n.kids.length - (j + 1))
        case measure => omega
        case rel => exact ⟨j + 1, x4, A4, c4, l1, rfl, by go_num, by omega, Nat.le_refl _, HGJ1, HR4, HP4, HON4, HF4, HO4, HB4⟩
      · have hji : ¬ (j : Int) < (n.kids.length : Nat) := by omega
        obtain rfl : j = n.kids.length := by omega
        have hend := HGJ.out
        rw [List.drop_eq_nil_of_le (Nat.le_refl _), Tp.pWalkKids] at hend
        obtain rfl : lj = l' := by injection hend
        have HEND := Lib.hid (show WkEnd S B t u TM root r σ lo (Value.slice A xs.length c).ownBlock lj w (.returned (.tuple #[.slice Aj xj.length cj, .int .i64 0])) wr from ⟨Aj, cj, xj, rfl, HRJ.out, HPJ.out, HONJ.out.less HM.out (by omega), HFJ.out, fun k hk => by
          rcases HOJ.out k hk with a | a
          · exact HOB3.out k a
          · exact .inr (Nat.le_trans HF3.out.size a)⟩)
        clear hend
        go_wp2
        go_ret2
        exact HEND.out
end
end Go.Proofs.YtpfplojkiloldaaGreatDoor
namespace Go.Proofs.YtpfplojkiloldaaGreatDoor
open Go.RowKit Go.Shelf
def WlEnd (S : Nat → Prop) (B t u : Nat) (TM : Nat → Tp.Pst → World → Prop) (root : Int) (r : Nat) (σ : Tp.Pst) (l : List (Int × Nat × Nd.Node)) (w : World) (e : Ending) (w' : World) : Prop :=
  ∃ A c xs, e = .returned (.tuple #[.slice A xs.length c, .int .i64 0]) ∧ LO pgE 60 w' w.heap.size (.slice A xs.length c) xs ∧ PgsAt w.heap.size w' xs l ∧ On S B t u TM root 0 r σ w' ∧ Fr S w w'
section
variable {S : Nat → Prop} {B t : Nat} {room : Int} {disk : Tp.Disk} {TM : Nat → Tp.Pst → World → Prop}
set_option maxRecDepth 100000 in
set_option maxHeartbeats 1000000 in
theorem wal_any (M : Mach S B t room disk TM) (u : Nat) (root : Int) (h0 : root ≠ 0) (σ : Tp.Pst) (l : List (Int × Nat × Nd.Node)) (r : Nat) (w : World) (hwk : Tp.pWalk disk σ 24 [] root = (l, 0)) (hl : l.length ≤ 100000) (h : On S B t u TM root 0 (r + Tp.cost Tp.rd disk σ 24 root) σ w) :
    Calls Tryz.prog 27 #[.pointer (some ⟨u, 0, none⟩)] w (WlEnd S B t u TM root r σ l w) := by
  have t1 : w.cell? ⟨u, 1, none⟩ = some (.int .i64 root) := h.self.cell 1
  have t2 : w.cell? ⟨u, 2, none⟩ = some (.int .i64 0) := h.self.cell 2
  have lu := h.self.lt
  have hrn : (root == 0) = false := by simpa using h0
  have HC := Lib.hid (walk_any M u root σ w.heap.size (M.size h.tm) 24 0 root [] l [] none 0 r w (by omega) hwk hl (LO.nil_ _ _) (PgsAt.nil_ _ _) (Nat.le_refl _) h)
  clear h M hwk
  go_enter Tryz.func27, Tryz.ntmps27
  go_wp2_with fail
  refine Calls.mono HC.out ?_
  rintro e w2 ⟨A, c, xs, rfl, hr, hp, hon, hf, _⟩
  have HEND := Lib.hid (show WlEnd S B t u TM root r σ l w (.returned (.tuple #[.slice A xs.length c, .int .i64 0])) w2 from ⟨A, c, xs, rfl, hr, hp, hon, hf.more (fun k a => by
    rcases a with a | a
    · exact a
    · simp [Value.ownBlock] at a)⟩)
  clear hr hp hon hf
  go_wp2
  go_ret2
  exact HEND.out
end
end Go.Proofs.YtpfplojkiloldaaGreatDoor
namespace Tp
open Nd En
def pgL (v : Int → Option Node) : Nat → Nat → Int → List (Int × Nat × Node)
  | 0, d, id => match v id with
    | none => []
    | some n => [(id, d, n)]
  | h + 1, d, id => match v id with
    | none => []
    | some n => (id, d, n) :: n.kids.flatMap (pgL v h (d + 1))
theorem pgL_leaf {v : Int → Option Node} {d : Nat} {lo hi : Option Str} {s : Sub} (hs : Tr v 0 lo hi s) : pgL v 0 d s.id = [(s.id, d, mkLeaf s.es)] := by rw [pgL, hs.1]
theorem pgL_inner {v : Int → Option Node} {h d : Nat} {id : Int} {subs : List Sub} {keys : List Str} (hv : v id = some (mkInner (subs.map (·.id)) keys)) : pgL v (h + 1) d id = (id, d, mkInner (subs.map (·.id)) keys) :: subs.flatMap (fun t => pgL v h (d + 1) t.id) := by
  rw [pgL, hv]
  simp only [mkInner]
  rw [List.flatMap_map]
theorem walk_kids {wk : List (Int × Nat × Node) → Int → List (Int × Nat × Node) × Int} {p : Sub → List (Int × Nat × Node)} : ∀ (subs : List Sub) (l : List (Int × Nat × Node)), (∀ t ∈ subs, ∀ l, wk l t.id = (l ++ p t, 0)) → pWalkKids wk (subs.map (·.id)) l = (l ++ subs.flatMap p, 0)
  | [], l, _ => by simp [pWalkKids]
  | t :: r, l, h => by
    rw [List.map_cons, pWalkKids, h t List.mem_cons_self]
    simp only
    rw [walk_kids r _ (fun u hu => h u (List.mem_cons_of_mem _ hu)), List.flatMap_cons, List.append_assoc]
theorem flat_congr {β : Type} {f g : Sub → List β} : ∀ (l : List Sub), (∀ t ∈ l, f t = g t) → l.flatMap f = l.flatMap g
  | [], _ => rfl
  | t :: l, h => by rw [List.flatMap_cons, List.flatMap_cons, h t List.mem_cons_self, flat_congr l fun u hu => h u (List.mem_cons_of_mem _ hu)]
section
variable {disk : Disk} {σ : Pst} {v : Int → Option Node}
theorem walk_tr : ∀ (h f : Nat) (lo hi : Option Str) (s : Sub) (l : List (Int × Nat × Node)), h < f → f ≤ 24 → Tr (σ.view disk) h lo hi s → pWalk disk σ f l s.id = (l ++ pgL (σ.view disk) h (24 - f) s.id, 0)
  | 0, f + 1, lo, hi, s, l, _, _, hs => by
    rw [pWalk, pgL_leaf hs, hs.1]
    rfl
  | h + 1, f + 1, lo, hi, s, l, hf, hf2, hs => by
    obtain ⟨subs, keys, a1, a2, a3, a4, a5, a6, a7⟩ := hs
    rw [pgL_inner a1, pWalk, a1]
    show pWalkKids (pWalk disk σ f) (subs.map (·.id)) _ = _
    rw [walk_kids (p := fun t => pgL (σ.view disk) h (24 - f) t.id) subs _ (fun t ht l => by
      obtain ⟨l', h', hp⟩ := chain_all a7 t ht
      exact walk_tr h f l' h' t l (by omega) (by omega) hp)]
    rw [show 24 - (f + 1) + 1 = 24 - f by omega, List.append_assoc]
    rfl
theorem pgL_ids : ∀ (h d : Nat) (lo hi : Option Str) (s : Sub), Tr v h lo hi s → (pgL v h d s.id).map (·.1) = s.ids
  | 0, d, lo, hi, s, hs => by rw [pgL_leaf hs, hs.2.1]; rfl
  | h + 1, d, lo, hi, s, hs => by
    obtain ⟨subs, keys, a1, a2, a3, a4, a5, a6, a7⟩ := hs
    rw [pgL_inner a1, List.map_cons, List.map_flatMap, a3]
    unfold ids_
    rw [flat_congr subs fun t ht => by
      obtain ⟨l', h', hp⟩ := chain_all a7 t ht
      exact pgL_ids h (d + 1) l' h' t hp]
theorem pgL_len {h d : Nat} {lo hi : Option Str} {s : Sub} (hs : Tr v h lo hi s) : (pgL v h d s.id).length = s.ids.length := by
  rw [← pgL_ids h d lo hi s hs, List.length_map]
theorem pgL_deep : ∀ (h d : Nat) (id : Int) (p : Int × Nat × Node), p ∈ pgL v h d id → p.2.1 ≤ d + h
  | 0, d, id, p, hp => by
    rw [pgL] at hp
    split at hp
    · cases hp
    · rw [List.mem_singleton] at hp; subst hp; exact Nat.le_refl _
  | h + 1, d, id, p, hp => by
    rw [pgL] at hp
    split at hp
    · cases hp
    · rcases List.mem_cons.1 hp with rfl | hp
      · show d ≤ d + (h + 1); omega
      · obtain ⟨k, _, hk⟩ := List.mem_flatMap.1 hp
        have := pgL_deep h (d + 1) k p hk
        omega
theorem flat_len {β : Type} {f : Sub → List β} {g : Sub → Nat} : ∀ (l : List Sub), (∀ t ∈ l, (f t).length ≤ g t) → (l.flatMap f).length ≤ (l.map g).sum
  | [], _ => Nat.le_refl _
  | t :: l, h => by
    rw [List.flatMap_cons, List.length_append, List.map_cons, List.sum_cons]
    have h1 := h t List.mem_cons_self
    have h2 := flat_len l fun u hu => h u (List.mem_cons_of_mem _ hu)
    omega
theorem es_len (l : List Sub) : (es_ l).length = (l.map fun t => t.es.length).sum := by
  unfold es_; rw [List.length_flatMap]
theorem sum_mul (l : List Sub) (k : Nat) : (l.map fun t => k * t.es.length).sum = k * (es_ l).length := by
  rw [es_len]
  induction l with
  | nil => rfl
  | cons t l ih => rw [List.map_cons, List.sum_cons, ih, List.map_cons, List.sum_cons, Nat.mul_add]
theorem kids_le_es {h : Nat} (ih : ∀ lo hi s, Tr v h lo hi s → s.ids.length ≤ (h + 1) * s.es.length) {lo hi : Option Str} {subs : List Sub} {keys : List Str} (hch : Chain (Tr v h) lo hi subs keys) : (ids_ subs).length ≤ (h + 1) * (es_ subs).length := by
  rw [← sum_mul]
  unfold ids_
  exact flat_len subs fun t ht => by
    obtain ⟨l', h', hp⟩ := chain_all hch t ht
    exact ih l' h' t hp
theorem ids_le_es : ∀ (h : Nat) (lo hi : Option Str) (s : Sub), Tr v h lo hi s → s.ids.length ≤ (h + 1) * s.es.length
  | 0, lo, hi, s, hs => by
    have := List.length_pos_iff.2 hs.2.2.2.1
    rw [hs.2.1, List.length_singleton]; omega
  | h + 1, lo, hi, s, hs => by
    have hne := List.length_pos_iff.2 ((tr_good v (h + 1)).ne hs)
    obtain ⟨subs, keys, a1, a2, a3, a4, a5, a6, a7⟩ := hs
    have := kids_le_es (ids_le_es h) a7
    rw [a3, List.length_cons, Nat.succ_mul, a4]
    rw [a4] at hne
    omega
theorem root_le_es {h : Nat} {lo hi : Option Str} {s : Sub} (hs : Tr v h lo hi s) : s.ids.length ≤ h * s.es.length + 1 := by
  cases h with
  | zero => rw [hs.2.1]; simp
  | succ h =>
    obtain ⟨subs, keys, a1, a2, a3, a4, a5, a6, a7⟩ := hs
    have := kids_le_es (ids_le_es h) a7
    rw [a3, List.length_cons, a4]
    omega
theorem es_le_tok : ∀ (h : Nat) (lo hi : Option Str) (s : Sub), Tr v h lo hi s → s.es.length ≤ s.tok
  | 0, lo, hi, s, hs => hs.2.2.2.2.2
  | h + 1, lo, hi, s, hs => by
    obtain ⟨subs, keys, a1, a2, a3, a4, a5, a6, a7⟩ := hs
    rw [a4, es_len]
    refine Nat.le_trans ?_ a5
    unfold toks
    have key : ∀ l : List Sub, (∀ t ∈ l, t.es.length ≤ t.tok) → (l.map fun t => t.es.length).sum ≤ (l.map (·.tok)).sum := fun l => by
      induction l with
      | nil => intro _; exact Nat.le_refl _
      | cons t l ih =>
        intro hl
        rw [List.map_cons, List.sum_cons, List.map_cons, List.sum_cons]
        have h1 := hl t List.mem_cons_self
        have h2 := ih fun u hu => hl u (List.mem_cons_of_mem _ hu)
        omega
    exact key subs fun t ht => by
      obtain ⟨l', h', hp⟩ := chain_all a7 t ht
      exact es_le_tok h l' h' t hp
def lev : Nat → Nat → Nat
  | 0, t => t
  | h + 1, t => t / 6 ^ (h + 1) + lev h t
theorem div_add_le (a b m : Nat) : a / m + b / m ≤ (a + b) / m := by
  rcases Nat.eq_zero_or_pos m with rfl | hm
  · simp
  · rw [Nat.le_div_iff_mul_le hm, Nat.add_mul]
    have h1 := Nat.div_mul_le_self a m
    have h2 := Nat.div_mul_le_self b m
    omega
theorem lev_add : ∀ (h a b : Nat), lev h a + lev h b ≤ lev h (a + b)
  | 0, a, b => Nat.le_refl _
  | h + 1, a, b => by
    have h1 := lev_add h a b
    have h2 := div_add_le a b (6 ^ (h + 1))
    simp only [lev]
    omega
theorem lev_mono : ∀ (h : Nat) {a b : Nat}, a ≤ b → lev h a ≤ lev h b
  | 0, _, _, hab => hab
  | h + 1, a, b, hab => by
    have h1 := lev_mono h hab
    have h2 := Nat.div_le_div_right (c := 6 ^ (h + 1)) hab
    simp only [lev]
    omega
theorem lev_sum (h : Nat) : ∀ l : List Sub, (l.map fun t => lev h t.tok).sum ≤ lev h (toks l)
  | [] => Nat.zero_le _
  | t :: l => by
    rw [List.map_cons, List.sum_cons, toks_cons]
    have h1 := lev_sum h l
    have h2 := lev_add h t.tok (toks l)
    omega
theorem lev_le : ∀ (h t : Nat), 5 * lev h t + t / 6 ^ h ≤ 6 * t
  | 0, t => by simp [lev]; omega
  | h + 1, t => by
    have h1 := lev_le h t
    have h2 : t / 6 ^ (h + 1) = t / 6 ^ h / 6 := by rw [Nat.pow_succ, Nat.div_div_eq_div_mul]
    simp only [lev]
    omega
theorem kids_lev {h : Nat} (ih : ∀ lo hi s, 6 ^ h ≤ s.tok → Tr v h lo hi s → s.ids.length ≤ lev h s.tok) {lo hi : Option Str} {subs : List Sub} {keys : List Str} (h6 : ∀ t ∈ subs, 6 ^ h ≤ t.tok) (hch : Chain (Tr v h) lo hi subs keys) : (ids_ subs).length ≤ lev h (toks subs) := by
  refine Nat.le_trans ?_ (lev_sum h subs)
  unfold ids_
  exact flat_len subs fun t ht => by
    obtain ⟨l', h', hp⟩ := chain_all hch t ht
    exact ih l' h' t (h6 t ht) hp
theorem ids_lev : ∀ (h : Nat) (lo hi : Option Str) (s : Sub), 6 ^ h ≤ s.tok → Tr v h lo hi s → s.ids.length ≤ lev h s.tok
  | 0, lo, hi, s, h6, hs => by rw [hs.2.1]; exact h6
  | h + 1, lo, hi, s, h6, hs => by
    obtain ⟨subs, keys, a1, a2, a3, a4, a5, a6, a7⟩ := hs
    have h1 := kids_lev (ids_lev h) a6 a7
    have h2 := lev_mono h a5
    have h3 : 0 < s.tok / 6 ^ (h + 1) := Nat.div_pos h6 (Nat.pow_pos (by decide))
    rw [a3, List.length_cons]
    simp only [lev]
    omega
theorem root_lev {h : Nat} {lo hi : Option Str} {s : Sub} (hs : Tr v h lo hi s) : 5 * s.ids.length ≤ 6 * s.tok + 5 := by
  cases h with
  | zero => rw [hs.2.1]; simp
  | succ h =>
    obtain ⟨subs, keys, a1, a2, a3, a4, a5, a6, a7⟩ := hs
    have h1 := kids_lev (ids_lev h) a6 a7
    have h2 := Nat.le_trans (Nat.le_add_right _ _) (lev_le h (toks subs))
    rw [a3, List.length_cons]
    omega
end
section
variable {room : Int} {disk : Disk} {used : List Run} {σ : Pst} {root : Int} {es : List En.Ent} {tok : Nat} {ids : List Int}
theorem RootAt.few (h : RootAt disk used σ root es tok ids) : 5 * ids.length ≤ 6 * tok + 5 := by
  rcases h with ⟨rfl, rfl, rfl⟩ | ⟨h, s, rfl, rfl, rfl, q4, q5, q6, q7, q8⟩
  · simp
  · have := root_lev q5; omega
theorem RootAt.right (h : RootAt disk used σ root es tok ids) : En.right es = true := by
  rcases h with ⟨rfl, rfl, rfl⟩ | ⟨h, s, rfl, rfl, rfl, q4, q5, q6, q7, q8⟩
  · rfl
  · exact (tr_good _ _).srt q5
theorem RootAt.len (h : RootAt disk used σ root es tok ids) : es.length ≤ tok := by
  rcases h with ⟨rfl, rfl, rfl⟩ | ⟨h, s, rfl, rfl, rfl, q4, q5, q6, q7, q8⟩
  · simp
  · have := es_le_tok _ _ _ _ q5; omega
theorem grow_leaf {l : List En.Ent} {pg : Int} (hv : σ.view disk pg = some (mkLeaf l)) : pGrow room disk 2 σ ([pg], []) = (.ok pg, σ) := by
  rw [pGrow, if_neg (by simp)]
  simp only
  rw [pShrink, hv]
  simp [mkLeaf]
theorem update_small {g : List En.Ent → List En.Ent} {key : Str} (hap : ApS room used σ) (hr : RootAt disk used σ root es tok ids) (h1 : ids.length ≤ 1) (hne : g es ≠ []) (hf : fits (mkLeaf (g es)) = true) (δ : Nat) (hd : (g es).length ≤ es.length + δ) :
    Res room disk used σ (fun x => x ∈ ids) 1 (pUpdate room disk g key σ root) (fun root' σ' ids' => RootAt disk used σ' root' (g es) (tok + δ) ids' ∧ ids'.length ≤ 1) := by
  have hl := hr.len
  have hne2 : (mkLeaf (g es)).ents.length + (mkLeaf (g es)).kids.length ≠ 0 := by
    have := List.length_pos_iff.2 hne
    show (g es).length + 0 ≠ 0
    omega
  have hgo : ∃ id, pFirst room disk g key σ root = pStore room (fuelOf (mkLeaf (g es))) σ id (mkLeaf (g es)) ∧ (ids = [id] ∨ (ids = [] ∧ id = 0)) := by
    rcases hr with ⟨rfl, rfl, rfl⟩ | ⟨h, s, rfl, rfl, rfl, q4, q5, q6, q7, q8⟩
    · exact ⟨0, by unfold pFirst; rw [if_pos rfl], .inr ⟨rfl, rfl⟩⟩
    · have hz : s.id ≠ 0 := fun e => by
        have := use_range hap (q7 s.id (tr_id q5))
        omega
      cases h with
      | zero =>
        refine ⟨s.id, ?_, .inl q5.2.1⟩
        unfold pFirst
        rw [if_neg hz, pChange, q5.1]
        rfl
      | succ h =>
        exfalso
        obtain ⟨subs, keys, a1, a2, a3, a4, a5, a6, a7⟩ := q5
        rw [a3, List.length_cons] at h1
        obtain ⟨t, ht⟩ : ∃ t, t ∈ subs := List.exists_mem_of_ne_nil _ (chain_ne a7)
        obtain ⟨l', h', hp⟩ := chain_all a7 t ht
        have := List.length_pos_of_mem (mem_ids ht (tr_id hp))
        omega
  obtain ⟨id, e0, hid⟩ := hgo
  have hst := store_one (disk := disk) hap ((g es).length + 0) id hne2 hf
  unfold pUpdate
  rw [e0, show fuelOf (mkLeaf (g es)) = (g es).length + 0 + 1 from rfl]
  generalize pStore room ((g es).length + 0 + 1) σ id (mkLeaf (g es)) = r at *
  obtain ⟨r, σ1⟩ := r
  rcases hst with ⟨p, ids1, e1, s1, n1, l1, pg, rfl, rfl, v1⟩ | ⟨e1, s1, l1⟩
  · simp only at e1 s1 l1 v1
    subst e1
    simp only
    have hs2 : Step room disk used σ (fun x => x ∈ ids) σ1 (fun x => x ∈ [pg]) := by
      rcases hid with rfl | ⟨rfl, rfl⟩
      · exact s1.congr (fun x => by simp) (fun _ => Iff.rfl)
      · exact s1.shrink (fun x hx _ hu => no_zero hap (by omega) hu) (fun x hx => by simp at hx)
    rw [show ([pg] : List Int).length + 1 = 2 from rfl, grow_leaf v1]
    exact .inl ⟨pg, [pg], rfl, hs2, n1, l1, .inr ⟨0, ⟨pg, [pg], g es, tok + δ⟩, rfl, rfl, rfl, Nat.le_refl _, ⟨v1, rfl, hf, hne, fun x _ => ⟨(fun a h => by cases h), (fun a h => by cases h)⟩, by show (g es).length ≤ tok + δ; omega⟩, n1, fun x hx => s1.got hx, .inl rfl⟩, Nat.le_refl _⟩
  · simp only at e1 s1 l1
    subst e1
    exact .inr ⟨rfl, s1, l1⟩
end
end Tp
namespace Go.Proofs.YtpfplojkiloldaaGreatDoor
open Go.RowKit Go.Shelf
structure TAd where
  B : Nat
  t : Nat
  m : Nat
  f : Nat
  u : Nat
def TAd.S (a : TAd) (k : Nat) : Prop := k = a.t ∨ k = a.m
def TAd.F (a : TAd) (k : Nat) : Prop := a.S k ∨ k = a.u
abbrev noDisk : Tp.Disk := fun _ => none
structure TSt (n : Nat) (a : TAd) (root : Int) (σ : Tp.Pst) (ids : List Int) (es : List Ent) (tok : Nat) (w : World) : Prop where
  on : On a.S a.B a.t a.u (TMf a.B a.t a.m a.f n) root 0 0 σ w
  rt : Tp.RootAt noDisk [] σ root es tok ids
  mine : ∀ x, x ∈ σ.mine ↔ x ∈ ids
  tl : tok ≤ 200000
def TAt (n : Nat) (a : TAd) (es : List Ent) (tok : Nat) (w : World) : Prop := ∃ root σ ids, TSt n a root σ ids es tok w
def TOne (n : Nat) (a : TAd) (es : List Ent) (tok : Nat) (w : World) : Prop := ∃ root σ ids, TSt n a root σ ids es tok w ∧ ids.length ≤ 1
theorem TOne.at_ {n : Nat} {a : TAd} {es : List Ent} {tok : Nat} {w : World} (h : TOne n a es tok w) : TAt n a es tok w := by
  obtain ⟨r, s, i, h, _⟩ := h; exact ⟨r, s, i, h⟩
theorem On.any {S : Nat → Prop} {B t m f n u r r' : Nat} {root e : Int} {σ : Tp.Pst} {w : World} (h : On S B t u (TMf B t m f n) root e r σ w) : On S B t u (TMf B t m f n) root e r' σ w := ⟨h.tm.less, h.self, h.hu⟩
section
variable {n : Nat} {a : TAd} {root : Int} {σ : Tp.Pst} {ids : List Int} {es : List Ent} {tok : Nat} {w w' : World}
theorem TSt.mach (h : TSt n a root σ ids es tok w) : Mach a.S a.B a.t (max (n : Int) 2) noDisk (TMf a.B a.t a.m a.f n) := mach_fresh h.on.tm.low.1 h.on.tm.low.2.1 a.f n
theorem TSt.low (h : TSt n a root σ ids es tok w) : ∀ k, a.F k → k < w.heap.size := fun k hk => by
  have h1 := h.on.tm.low
  rcases hk with hk | rfl
  · have := h.mach.low k hk; omega
  · exact h.on.self.lt
theorem TSt.nodup (h : TSt n a root σ ids es tok w) : ids.Nodup := by
  rcases h.rt with ⟨_, _, rfl⟩ | ⟨_, s, _, _, _, _, _, q, _⟩
  · exact List.nodup_nil
  · exact q
theorem TSt.mineLen (h : TSt n a root σ ids es tok w) : σ.mine.length = ids.length := by
  have h1 := List.Nodup.length_le_of_subset h.on.tm.ap.nd (fun x hx => (h.mine x).1 hx)
  have h2 := List.Nodup.length_le_of_subset h.nodup (fun x hx => (h.mine x).2 hx)
  omega
theorem TSt.below (h : TSt n a root σ ids es tok w) (hb : Below w.heap.size w w') : TSt n a root σ ids es tok w' := ⟨h.on.below h.mach hb, h.rt, h.mine, h.tl⟩
theorem TSt.with_ (h : TSt n a root σ ids es tok w) {r : Nat} (ho : On a.S a.B a.t a.u (TMf a.B a.t a.m a.f n) root 0 r σ w') : TSt n a root σ ids es tok w' := ⟨ho.any, h.rt, h.mine, h.tl⟩
theorem TAt.below (h : TAt n a es tok w) (hb : Below w.heap.size w w') : TAt n a es tok w' := by
  obtain ⟨r, s, i, h⟩ := h; exact ⟨r, s, i, h.below hb⟩
theorem TOne.below (h : TOne n a es tok w) (hb : Below w.heap.size w w') : TOne n a es tok w' := by
  obtain ⟨r, s, i, h, hi⟩ := h; exact ⟨r, s, i, h.below hb, hi⟩
theorem TAt.right (h : TAt n a es tok w) : En.right es = true := by obtain ⟨r, s, i, h⟩ := h; exact h.rt.right
theorem TAt.len (h : TAt n a es tok w) : es.length ≤ tok := by obtain ⟨r, s, i, h⟩ := h; exact h.rt.len
theorem TAt.low (h : TAt n a es tok w) : ∀ k, a.F k → k < w.heap.size := by obtain ⟨r, s, i, h⟩ := h; exact h.low
theorem TSt.up (h : TSt n a root σ ids es tok w) {g : List Ent → List Ent} {key : ByteArray} {N tok' : Nat} {X : List Int → Prop} (hU : Tp.Res (max (n : Int) 2) noDisk [] σ (fun x => x ∈ ids) N (Tp.pUpdate (max (n : Int) 2) noDisk g key σ root) (fun root' σ' ids' => Tp.RootAt noDisk [] σ' root' (g es) tok' ids' ∧ X ids')) (hs : (ids.length : Int) + N < max (n : Int) 2 - 2) (ht : tok' ≤ 200000) :
    ∃ root' σ' ids', Tp.pUpdate (max (n : Int) 2) noDisk g key σ root = (.ok root', σ') ∧ X ids' ∧ ∀ w' r, On a.S a.B a.t a.u (TMf a.B a.t a.m a.f n) root' 0 r σ' w' → TSt n a root' σ' ids' (g es) tok' w' := by
  have hl := h.mineLen
  generalize Tp.pUpdate (max (n : Int) 2) noDisk g key σ root = o at *
  obtain ⟨o, σ'⟩ := o
  rcases hU with ⟨root', ids', e1, s1, n1, l1, q1, q2⟩ | ⟨e1, s1, l1⟩
  · simp only at e1 s1 q1
    subst e1
    refine ⟨root', σ', ids', rfl, q2, fun w' r ho => ⟨ho.any, q1, fun x => ?_, ht⟩⟩
    rw [s1.mem x, h.mine x]
    constructor
    · rintro (⟨a1, a2⟩ | ⟨a1, _⟩)
      · exact absurd a1 a2
      · exact a1
    · intro a1
      exact .inr ⟨a1, Rp.mem_nil _⟩
  · exfalso
    have : Tp.spare (max (n : Int) 2) [] = max (n : Int) 2 - 2 := by unfold Tp.spare; simp [Rp.nums]
    omega
def Rm (n tok : Nat) : Prop := 6 * tok + 210 < 5 * (n - 2)
theorem TSt.room (h : TSt n a root σ ids es tok w) (hr : Rm n tok) : (ids.length : Int) + 40 < max (n : Int) 2 - 2 := by
  have := h.rt.few
  unfold Rm at hr
  omega
theorem gPut_eq {k v : ByteArray} (hr : En.right es = true) (hm : En.may k v = true) : Tp.gPut k v es = En.put es k v := by unfold Tp.gPut; rw [hr, hm]; rfl
theorem gDel_eq {k : ByteArray} (hr : En.right es = true) : Tp.gDel k es = En.del es k := by unfold Tp.gDel; rw [hr]; rfl
theorem ins_len (x : Ent) : ∀ l : List Ent, (En.ins x l).length = l.length + 1
  | [] => rfl
  | y :: l => by
    unfold En.ins
    split
    · rfl
    · rw [List.length_cons, ins_len x l]; rfl
theorem del_len (l : List Ent) (k : ByteArray) : (En.del l k).length ≤ l.length := by unfold En.del; exact List.length_filter_le _ _
theorem get_none {l : List Ent} {k : ByteArray} (h : En.get l k = none) : ∀ x ∈ l, x.1 ≠ k := fun x hx e => by
  unfold En.get at h
  rw [Option.map_eq_none_iff, List.find?_eq_none] at h
  have := h x hx
  rw [e, En.eqs_self] at this
  simp at this
theorem get_some {l : List Ent} {k v : ByteArray} (h : En.get l k = some v) : (k, v) ∈ l := by
  unfold En.get at h
  rw [Option.map_eq_some_iff] at h
  obtain ⟨x, hx, rfl⟩ := h
  have h1 := List.mem_of_find?_eq_some hx
  have h2 := List.find?_some hx
  rw [En.eqs_iff] at h2
  rw [← h2]; exact h1
theorem del_len_some {l : List Ent} {k v : ByteArray} (h : En.get l k = some v) : (En.del l k).length + 1 ≤ l.length := by
  have hm := get_some h
  unfold En.del
  have : (l.filter fun x => !En.eqs x.1 k).length < l.length := by
    refine Nat.lt_of_le_of_ne (List.length_filter_le _ _) fun e => ?_
    have := List.length_filter_eq_length_iff.1 e _ hm
    simp [En.eqs_self] at this
  exact this
def dput (es : List Ent) (k : ByteArray) : Nat := if (En.get es k).isSome then 0 else 1
theorem dput_le (es : List Ent) (k : ByteArray) : dput es k ≤ 1 := by unfold dput; split <;> omega
theorem eput_len {k v : ByteArray} (es : List Ent) : (En.put es k v).length ≤ es.length + dput es k := by
  unfold En.put dput
  rw [ins_len]
  cases h : En.get es k with
  | none => have := del_len es k; simp; omega
  | some v => have := del_len_some h; simp; omega
theorem tst_put (h : TAt n a es tok w) {k v : ByteArray} (hm : En.may k v = true) (hr : Rm n tok) :
    Calls Tryz.prog 15 #[.pointer (some ⟨a.u, 0, none⟩), .string k, .string v] w fun e w' => e = .returned (.int .i64 0) ∧ TAt n a (En.put es k v) (tok + dput es k) w' ∧ Fr a.F w w' := by
  obtain ⟨root, σ, ids, h⟩ := h
  have hg := gPut_eq h.rt.right hm
  have hU := Tp.update_ok (room := max (n : Int) 2) (Tp.gPut_op hm) h.on.tm.ap h.rt (by have := h.tl; omega) (dput es k) (by rw [hg]; exact eput_len es)
  obtain ⟨root', σ', ids', e1, _, h2⟩ := h.up (X := fun _ => True) (hU.mono (fun _ => Iff.rfl) (Nat.le_refl _) fun _ _ _ q => ⟨q, trivial⟩) (h.room hr) (by unfold Rm at hr; have := h.on.tm.ap.pg; have := dput_le es k; omega)
  refine (ctput_may h.mach a.u root k v hm 0 σ (by rw [e1]; simp) w h.on.any).mono ?_
  rintro e w' ⟨hres, hf⟩
  rw [e1] at hres
  rcases hres with ⟨p, hp, rfl, ho⟩ | ⟨hp, _⟩
  · injection hp with hp
    subst hp
    refine ⟨rfl, ⟨root', σ', ids', ?_⟩, hf⟩
    rw [← hg]
    exact h2 w' 0 ho
  · cases hp
theorem tst_put1 (h : TOne n a es tok w) {k v : ByteArray} (hm : En.may k v = true) (hf : Nd.esize (En.put es k v) ≤ 240) (hr : 4 < n) (ht : tok ≤ 1000) :
    Calls Tryz.prog 15 #[.pointer (some ⟨a.u, 0, none⟩), .string k, .string v] w fun e w' => e = .returned (.int .i64 0) ∧ TOne n a (En.put es k v) (tok + dput es k) w' ∧ Fr a.F w w' := by
  obtain ⟨root, σ, ids, h, hi⟩ := h
  have hg := gPut_eq h.rt.right hm
  have hU := Tp.update_small (g := Tp.gPut k v) (key := k) h.on.tm.ap h.rt hi (by
    rw [hg]; unfold En.put; intro e
    have := congrArg List.length e
    rw [ins_len] at this; simp at this) (by rw [hg]; exact Tp.mkLeaf_fits (En.right_put h.rt.right hm) hf) (dput es k) (by rw [hg]; exact eput_len es)
  obtain ⟨root', σ', ids', e1, hi2, h2⟩ := h.up (X := fun i => i.length ≤ 1) hU (by omega) (by have := dput_le es k; omega)
  refine (ctput_may h.mach a.u root k v hm 0 σ (by rw [e1]; simp) w h.on.any).mono ?_
  rintro e w' ⟨hres, hf⟩
  rw [e1] at hres
  rcases hres with ⟨p, hp, rfl, ho⟩ | ⟨hp, _⟩
  · injection hp with hp
    subst hp
    refine ⟨rfl, ⟨root', σ', ids', ?_, hi2⟩, hf⟩
    rw [← hg]
    exact h2 w' 0 ho
  · cases hp
theorem TSt.find (h : TSt n a root σ ids es tok w) (k : ByteArray) : Tp.pFind noDisk σ k 24 root = .ok (En.get es k) := by
  rcases h.rt with ⟨rfl, rfl, rfl⟩ | ⟨hh, s, rfl, rfl, rfl, q4, q5, q6, q7, q8⟩
  · rfl
  · have hz : s.id ≠ 0 := fun e => by
      have := Tp.use_range (room := max (n : Int) 2) h.on.tm.ap (q7 s.id (Tp.tr_id q5))
      omega
    have h8 := Tp.low_of q8 (by have := h.tl; omega)
    exact Tp.find_tr hh 24 none none s (by omega) q5 hz (fun a h => by cases h) (fun a h => by cases h)
theorem tst_get (h : TSt n a root σ ids es tok w) (k : ByteArray) :
    Calls Tryz.prog 24 #[.pointer (some ⟨a.u, 0, none⟩), .string k] w fun e w' => e = .returned (getV (En.get es k)) ∧ TSt n a root σ ids es tok w' ∧ Fr a.S w w' := by
  refine (tget_any h.mach a.u root k 0 σ (En.get es k) (h.find k) w h.on.any).mono ?_
  rintro e w' ⟨rfl, ho, hf⟩
  exact ⟨rfl, h.with_ ho, hf⟩
theorem del_none_ {k : ByteArray} (h : En.get es k = none) : En.del es k = es := Tp.del_none (get_none h)
theorem tst_del (h : TAt n a es tok w) (k : ByteArray) (hr : Rm n tok) :
    Calls Tryz.prog 21 #[.pointer (some ⟨a.u, 0, none⟩), .string k] w fun e w' => e = .returned (.tuple #[.bool (En.get es k).isSome, .int .i64 0]) ∧ TAt n a (En.del es k) tok w' ∧ Fr a.F w w' := by
  obtain ⟨root, σ, ids, h⟩ := h
  have hfd := h.find k
  cases hgk : En.get es k with
  | none =>
    rw [hgk] at hfd
    refine (tdel_none h.mach a.u root k 0 σ hfd w h.on.any).mono ?_
    rintro e w' ⟨rfl, ho, hf⟩
    refine ⟨rfl, ⟨root, σ, ids, ?_⟩, hf.more fun _ => .inl⟩
    rw [del_none_ hgk]
    exact h.with_ ho
  | some v =>
    rw [hgk] at hfd
    have hg := gDel_eq (k := k) h.rt.right
    have hU := Tp.update_ok (room := max (n : Int) 2) (Tp.gDel_op k) h.on.tm.ap h.rt (by have := h.tl; omega) 0 (by rw [hg]; exact del_len es k)
    obtain ⟨root', σ', ids', e1, _, h2⟩ := h.up (X := fun _ => True) (hU.mono (fun _ => Iff.rfl) (Nat.le_refl _) fun _ _ _ q => ⟨q, trivial⟩) (h.room hr) (by have := h.tl; omega)
    refine (tdel_some h.mach a.u root k v 0 σ hfd (by rw [e1]; simp) w h.on.any).mono ?_
    rintro e w' ⟨hres, hf⟩
    rw [e1] at hres
    rcases hres with ⟨p, hp, rfl, ho⟩ | ⟨hp, _⟩
    · injection hp with hp
      subst hp
      refine ⟨rfl, ⟨root', σ', ids', ?_⟩, hf⟩
      rw [← hg]
      exact h2 w' 0 ho
    · cases hp
theorem tst_del1 (h : TOne n a es tok w) (k : ByteArray) {v : ByteArray} (hgk : En.get es k = some v) (hne : En.del es k ≠ []) (hf : Nd.esize (En.del es k) ≤ 240) (hr : 4 < n) :
    Calls Tryz.prog 21 #[.pointer (some ⟨a.u, 0, none⟩), .string k] w fun e w' => e = .returned (.tuple #[.bool true, .int .i64 0]) ∧ TOne n a (En.del es k) tok w' ∧ Fr a.F w w' := by
  obtain ⟨root, σ, ids, h, hi⟩ := h
  have hfd := h.find k
  rw [hgk] at hfd
  have hg := gDel_eq (k := k) h.rt.right
  have hU := Tp.update_small (g := Tp.gDel k) (key := k) h.on.tm.ap h.rt hi (by rw [hg]; exact hne) (by rw [hg]; exact Tp.mkLeaf_fits (En.right_del h.rt.right) hf) 0 (by rw [hg]; exact del_len es k)
  obtain ⟨root', σ', ids', e1, hi2, h2⟩ := h.up (X := fun i => i.length ≤ 1) hU (by omega) (by have := h.tl; omega)
  refine (tdel_some h.mach a.u root k v 0 σ hfd (by rw [e1]; simp) w h.on.any).mono ?_
  rintro e w' ⟨hres, hf⟩
  rw [e1] at hres
  rcases hres with ⟨p, hp, rfl, ho⟩ | ⟨hp, _⟩
  · injection hp with hp
    subst hp
    refine ⟨rfl, ⟨root', σ', ids', ?_, hi2⟩, hf⟩
    rw [← hg]
    exact h2 w' 0 ho
  · cases hp
theorem tst_new (k : Int) (w : World) : Calls Tryz.prog 13 #[.int .i64 k] w fun e w' => ∃ a : TAd, e = .returned (.pointer (some ⟨a.u, 0, none⟩)) ∧ TOne (diskN k) a [] 0 w' ∧ Below w.heap.size w w' ∧ ∀ x, a.F x → w.heap.size ≤ x := by
  refine (tree_any k 0 w).mono ?_
  rintro e w' ⟨B, t, m, f, u, rfl, ht, hm, h1, h2, h3, ho, hb⟩
  refine ⟨⟨B, t, m, f, u⟩, rfl, ⟨0, Tp.none_, [], ⟨ho, .inl ⟨rfl, rfl, rfl⟩, fun x => by simp [Tp.none_], by omega⟩, by simp⟩, hb, fun x hx => ?_⟩
  have := ho.hu
  rcases hx with (rfl | rfl) | rfl
  · exact h1
  · exact h2
  · exact Nat.le_trans h3 this
end
end Go.Proofs.YtpfplojkiloldaaGreatDoor
namespace Tp
open En
def inB (hi : Str) (x : Ent) : Bool := hi.toList.isEmpty || lt x.1 hi
def ge_ (frm : Str) (x : Ent) : Bool := !lt x.1 frm
def scanF (es : List Ent) (frm hi : Str) : List Ent := es.filter fun x => inB hi x && ge_ frm x
theorem from_filter {frm : Str} : ∀ {es : List Ent}, Srt es → from_ es frm = es.filter (ge_ frm)
  | [], _ => rfl
  | x :: l, h => by
    obtain ⟨h1, h2⟩ := srt_cons.1 h
    rw [from_cons]
    cases hx : lt x.1 frm with
    | true =>
      rw [if_pos rfl, from_filter h2, List.filter_cons_of_neg (by simp [ge_, hx])]
    | false =>
      rw [if_neg (by simp), List.filter_cons_of_pos (by simp [ge_, hx])]
      congr 1
      refine (List.filter_eq_self.2 fun y hy => ?_).symm
      unfold ge_
      cases hy2 : lt y.1 frm with
      | false => rfl
      | true => rw [lt_trans (h1 y hy) hy2] at hx; cases hx
theorem take_filter {hi : Str} : ∀ {es : List Ent}, Srt es → es.takeWhile (inB hi) = es.filter (inB hi)
  | [], _ => rfl
  | x :: l, h => by
    obtain ⟨h1, h2⟩ := srt_cons.1 h
    cases hx : inB hi x with
    | true => rw [List.takeWhile_cons_of_pos hx, List.filter_cons_of_pos hx, take_filter h2]
    | false =>
      rw [List.takeWhile_cons_of_neg (by rw [hx]; simp), List.filter_cons_of_neg (by rw [hx]; simp)]
      refine (List.filter_eq_nil_iff.2 fun y hy => ?_).symm
      unfold inB at hx ⊢
      rw [Bool.or_eq_false_iff] at hx
      rw [hx.1, Bool.false_or]
      intro hy2
      rw [lt_trans (h1 y hy) hy2] at hx
      cases hx.2
theorem srt_filter {es : List Ent} (h : Srt es) (p : Ent → Bool) : Srt (es.filter p) := List.Pairwise.sublist List.filter_sublist h
theorem srt_right {es : List Ent} (h : En.right es = true) : Srt es := ((right_iff es).1 h).2
theorem inB_nil (x : Ent) : inB ⟨#[]⟩ x = true := by
  unfold inB
  rw [Go.Lib.toList_data]; rfl
theorem scan_all {es : List Ent} {frm : Str} (h : Srt es) : scanF es frm ⟨#[]⟩ = from_ es frm := by
  rw [from_filter h]
  unfold scanF
  congr 1
  funext x
  rw [inB_nil, Bool.true_and]
theorem scan_whole {es : List Ent} : scanF es ⟨#[]⟩ ⟨#[]⟩ = es := by
  unfold scanF
  refine List.filter_eq_self.2 fun x _ => ?_
  rw [inB_nil, Bool.true_and]
  unfold ge_ lt
  rw [Go.Lib.toList_data (⟨#[]⟩ : ByteArray)]
  cases x.1.toList <;> rfl
end Tp
namespace Go.Proofs.YtpfplojkiloldaaGreatDoor
open Go.RowKit Go.Shelf
theorem ystep_scan (hi : ByteArray) : ∀ (l acc : List Ent), (Tp.ystep (scanS hi) acc l).1 = acc ++ l.takeWhile (Tp.inB hi)
  | [], acc => by simp [Tp.ystep]
  | x :: l, acc => by
    have hiff : (hi.toList = [] ∨ En.lt x.1 hi = true) ↔ Tp.inB hi x = true := by unfold Tp.inB; simp
    rw [Tp.ystep]
    by_cases hx : Tp.inB hi x = true
    · have e : scanS hi acc x = (acc ++ [x], true) := by unfold scanS; rw [if_pos (hiff.2 hx)]
      rw [e, if_pos rfl, ystep_scan hi l, List.takeWhile_cons_of_pos hx, List.append_assoc]
      rfl
    · have e : scanS hi acc x = (acc, false) := by unfold scanS; rw [if_neg (fun h => hx (hiff.1 h))]
      rw [e, if_neg (by simp), List.takeWhile_cons_of_neg hx, List.append_nil]
theorem scan_y {es : List Ent} (h : En.Srt es) (frm hi : ByteArray) : (Tp.ystep (scanS hi) [] (Tp.from_ es frm)).1 = Tp.scanF es frm hi := by
  rw [ystep_scan, List.nil_append, Tp.from_filter h, Tp.take_filter (Tp.srt_filter h _), List.filter_filter]
  rfl
def nextV (l : List Ent) : Ent × Bool := match l with
  | [] => ((⟨#[]⟩, ⟨#[]⟩), false)
  | x :: _ => (x, true)
theorem next_y (l : List Ent) : (Tp.ystep nextS ((⟨#[]⟩, ⟨#[]⟩), false) l).1 = nextV l := by
  cases l with
  | nil => rfl
  | cons x l => rfl
theorem cost_tr {σ : Tp.Pst} {disk : Tp.Disk} : ∀ (h f : Nat) (lo hi : Option En.Str) (s : Tp.Sub), Tp.Tr (σ.view disk) h lo hi s → Tp.cost Tp.en disk σ f s.id ≤ s.es.length
  | _, 0, _, _, _, _ => Nat.zero_le _
  | 0, f + 1, lo, hi, s, hs => by
    rw [Tp.cost_eq hs.1]
    exact Nat.le_of_eq (by simp [Tp.en, Tp.costs, Nd.mkLeaf])
  | h + 1, f + 1, lo, hi, s, hs => by
    obtain ⟨subs, keys, a1, a2, a3, a4, a5, a6, a7⟩ := hs
    rw [Tp.cost_eq a1, a4, Tp.es_len]
    show 0 + Tp.costs Tp.en disk σ f (subs.map (·.id)) ≤ _
    rw [Nat.zero_add]
    unfold Tp.costs
    rw [List.map_map]
    have key : ∀ l : List Tp.Sub, (∀ t ∈ l, t ∈ subs) → (l.map (Tp.cost Tp.en disk σ f ∘ (·.id))).sum ≤ (l.map fun t => t.es.length).sum := fun l => by
      induction l with
      | nil => intro _; exact Nat.le_refl _
      | cons t l ih =>
        intro hl
        obtain ⟨l', h', hp⟩ := Tp.chain_all a7 t (hl t List.mem_cons_self)
        have h1 := cost_tr h f l' h' t hp
        have h2 := ih fun u hu => hl u (List.mem_cons_of_mem _ hu)
        rw [List.map_cons, List.sum_cons, List.map_cons, List.sum_cons]
        show Tp.cost Tp.en disk σ f t.id + _ ≤ _
        omega
    exact key subs fun _ h => h
section
variable {n : Nat} {a : TAd} {root : Int} {σ : Tp.Pst} {ids : List Int} {es : List Ent} {tok : Nat} {w w' : World}
theorem TSt.cost (h : TSt n a root σ ids es tok w) (h0 : root ≠ 0) : Tp.cost Tp.en noDisk σ 24 root ≤ 1000000 := by
  have hl := h.rt.len
  have ht := h.tl
  rcases h.rt with ⟨rfl, _, _⟩ | ⟨hh, s, rfl, rfl, rfl, q4, q5, q6, q7, q8⟩
  · exact absurd rfl h0
  · have := cost_tr (σ := σ) (disk := noDisk) hh 24 none none s q5; omega
theorem TSt.visit {Q : Type} (h : TSt n a root σ ids es tok w) (h0 : root ≠ 0) (y : Q → Ent → Q × Bool) (frm : ByteArray) (q : Q) : Tp.pVisit noDisk σ frm (Tp.ystep y) 24 root q = ((Tp.ystep y q (Tp.from_ es frm)).1, .ok (Tp.ystep y q (Tp.from_ es frm)).2) := by
  have ht := h.tl
  rcases h.rt with ⟨rfl, _, _⟩ | ⟨hh, s, rfl, rfl, rfl, q4, q5, q6, q7, q8⟩
  · exact absurd rfl h0
  · have h8 := Tp.low_of q8 (by omega)
    exact Tp.visit_tr y hh 24 none none s q (by omega) q5
def TScEnd (n : Nat) (a : TAd) (root : Int) (σ : Tp.Pst) (ids : List Int) (es : List Ent) (tok : Nat) (l : List Ent) (w : World) (e : Ending) (w' : World) : Prop :=
  ∃ A c, e = .returned (.tuple #[.slice A l.length c, .int .i64 0]) ∧ LO entE 38 w' w.heap.size (.slice A l.length c) l ∧ TSt n a root σ ids es tok w' ∧ Fr a.S w w'
theorem tst_scan (h : TSt n a root σ ids es tok w) (frm hi : ByteArray) :
    Calls Tryz.prog 16 #[.pointer (some ⟨a.u, 0, none⟩), .string frm, .string hi] w (TScEnd n a root σ ids es tok (Tp.scanF es frm hi) w) := by
  have hs := Tp.srt_right h.rt.right
  have hN : Tp.cost Tp.en noDisk σ 24 root ≤ 1000000 := by
    by_cases h0 : root = 0
    · subst h0
      rcases h.rt with ⟨_, _, _⟩ | ⟨hh, s, e, rfl, rfl, q4, q5, q6, q7, q8⟩
      · have : σ.view noDisk 0 = none := by
          unfold Tp.Pst.view
          rw [if_neg (fun hm => by have := h.on.tm.ap.hm 0 hm; omega)]
          split <;> rfl
        rw [Tp.cost, this]; exact Nat.zero_le _
      · exfalso
        have := Tp.use_range (room := max (n : Int) 2) h.on.tm.ap (q7 s.id (Tp.tr_id q5))
        omega
    · exact h.cost h0
  refine (scan_any h.mach a.u root frm hi σ (Tp.scanF es frm hi) (Tp.ystep (scanS hi) [] (Tp.from_ es frm)).2 0 w hN (fun h0 => ?_) (fun h0 => ?_) h.on.any).mono ?_
  · subst h0
    rcases h.rt with ⟨_, rfl, _⟩ | ⟨hh, s, e, rfl, rfl, q4, q5, q6, q7, q8⟩
    · rfl
    · exfalso
      have := Tp.use_range (room := max (n : Int) 2) h.on.tm.ap (q7 s.id (Tp.tr_id q5))
      omega
  · rw [h.visit h0, scan_y hs]
  · rintro e w' ⟨A, c, rfl, hr, ho, hf⟩
    exact ⟨A, c, rfl, hr, h.with_ ho, hf⟩
def TNxEnd (n : Nat) (a : TAd) (root : Int) (σ : Tp.Pst) (ids : List Int) (es : List Ent) (tok : Nat) (q : Ent × Bool) (w : World) (e : Ending) (w' : World) : Prop :=
  e = .returned (.tuple #[.agg #[.string q.1.1, .string q.1.2], .bool q.2, .int .i64 0]) ∧ TSt n a root σ ids es tok w' ∧ Fr a.S w w'
theorem tst_next (h : TSt n a root σ ids es tok w) (frm : ByteArray) :
    Calls Tryz.prog 19 #[.pointer (some ⟨a.u, 0, none⟩), .string frm] w (TNxEnd n a root σ ids es tok (nextV (Tp.scanF es frm ⟨#[]⟩)) w) := by
  have hs := Tp.srt_right h.rt.right
  refine (next_any h.mach a.u root frm σ (nextV (Tp.scanF es frm ⟨#[]⟩)) (Tp.ystep nextS ((⟨#[]⟩, ⟨#[]⟩), false) (Tp.from_ es frm)).2 0 w (fun h0 => ?_) (fun h0 => ?_) h.on.any).mono ?_
  · subst h0
    rcases h.rt with ⟨_, rfl, _⟩ | ⟨hh, s, e, rfl, rfl, q4, q5, q6, q7, q8⟩
    · rfl
    · exfalso
      have := Tp.use_range (room := max (n : Int) 2) h.on.tm.ap (q7 s.id (Tp.tr_id q5))
      omega
  · rw [h.visit h0, next_y, Tp.scan_all hs]
  · rintro e w' ⟨rfl, ho, hf⟩
    exact ⟨rfl, h.with_ ho, hf⟩
end
end Go.Proofs.YtpfplojkiloldaaGreatDoor
namespace Go.Proofs.YtpfplojkiloldaaGreatDoor
open Go.RowKit Go.Shelf
section
variable {S : Nat → Prop} {B t : Nat} {room : Int} {disk : Tp.Disk} {TM : Nat → Tp.Pst → World → Prop}
set_option maxRecDepth 100000 in
set_option maxHeartbeats 1000000 in
theorem wal_zero (u r : Nat) (σ : Tp.Pst) (w : World) (h : On S B t u TM 0 0 r σ w) :
    Calls Tryz.prog 27 #[.pointer (some ⟨u, 0, none⟩)] w fun e w' => e = .returned (.tuple #[.slice none 0 0, .int .i64 0]) ∧ Below w.heap.size w w' := by
  have t1 : w.cell? ⟨u, 1, none⟩ = some (.int .i64 0) := h.self.cell 1
  have t2 : w.cell? ⟨u, 2, none⟩ = some (.int .i64 0) := h.self.cell 2
  have lu := h.self.lt
  clear h
  go_enter Tryz.func27, Tryz.ntmps27
  go_wp2
  go_quiet (fail)
  go_wp2
  go_ret2
  exact ⟨rfl, below_drewN (Below.refl _ _) _⟩
end
section
variable {n : Nat} {a : TAd} {root : Int} {σ : Tp.Pst} {ids : List Int} {es : List Ent} {tok : Nat} {w w' : World}
def WalkP (σ : Tp.Pst) (root : Int) (ids : List Int) (es : List Ent) (tok : Nat) (P : List (Int × Nat × Nd.Node)) : Prop :=
  (root = 0 ∧ es = [] ∧ P = [] ∧ ids = []) ∨ ∃ h s, s.id = root ∧ s.ids = ids ∧ s.es = es ∧ s.tok ≤ tok ∧ Tp.Tr (σ.view noDisk) h none none s ∧ (h = 0 ∨ 2 * 6 ^ (h - 1) ≤ s.tok) ∧ P = Tp.pgL (σ.view noDisk) h 0 root
theorem WalkP.ids_ {P : List (Int × Nat × Nd.Node)} (h : WalkP σ root ids es tok P) : P.map (·.1) = ids := by
  rcases h with ⟨_, _, rfl, rfl⟩ | ⟨h, s, rfl, rfl, rfl, _, ht, _, rfl⟩
  · rfl
  · exact Tp.pgL_ids h 0 none none s ht
theorem WalkP.len {P : List (Int × Nat × Nd.Node)} (h : WalkP σ root ids es tok P) : P.length = ids.length := by rw [← h.ids_, List.length_map]
def TWkEnd (n : Nat) (a : TAd) (root : Int) (σ : Tp.Pst) (ids : List Int) (es : List Ent) (tok : Nat) (w : World) (e : Ending) (w' : World) : Prop :=
  ∃ A c xs P, e = .returned (.tuple #[.slice A xs.length c, .int .i64 0]) ∧ LO pgE 60 w' w.heap.size (.slice A xs.length c) xs ∧ PgsAt w.heap.size w' xs P ∧ WalkP σ root ids es tok P ∧ TSt n a root σ ids es tok w' ∧ Fr a.S w w'
theorem tst_walk (h : TSt n a root σ ids es tok w) :
    Calls Tryz.prog 27 #[.pointer (some ⟨a.u, 0, none⟩)] w (TWkEnd n a root σ ids es tok w) := by
  have ht := h.tl
  rcases h.rt with ⟨rfl, rfl, rfl⟩ | ⟨hh, s, rfl, rfl, rfl, q4, q5, q6, q7, q8⟩
  · refine (wal_zero a.u 0 σ w h.on).mono ?_
    rintro e w' ⟨rfl, hb⟩
    exact ⟨none, 0, [], [], rfl, LO.nil_ _ _, PgsAt.nil_ _ _, .inl ⟨rfl, rfl, rfl, rfl⟩, h.below hb, .of_below hb⟩
  · have h8 := Tp.low_of q8 (by omega)
    have hz : s.id ≠ 0 := fun e => by
      have := Tp.use_range (room := max (n : Int) 2) h.on.tm.ap (q7 s.id (Tp.tr_id q5))
      omega
    have hw := Tp.walk_tr (disk := noDisk) (σ := σ) hh 24 none none s [] (by omega) (Nat.le_refl _) q5
    rw [List.nil_append, Nat.sub_self] at hw
    have hfew := h.rt.few
    have hl : (Tp.pgL (σ.view noDisk) hh 0 s.id).length ≤ 100000 := by
      rw [Tp.pgL_len q5]
      have h1 := h.mineLen
      have h2 := (ap_small h.on.tm.ap).2
      omega
    refine (wal_any h.mach a.u s.id hz σ _ 0 w hw hl h.on.any).mono ?_
    rintro e w' ⟨A, c, xs, rfl, hr, hp, ho, hf⟩
    exact ⟨A, c, xs, _, rfl, hr, hp, .inr ⟨hh, s, rfl, rfl, rfl, q4, q5, q8, rfl⟩, h.with_ ho, hf⟩
end
end Go.Proofs.YtpfplojkiloldaaGreatDoor
namespace Tp
open En
theorem del_len_srt {k : Str} : ∀ {l : List Ent}, Srt l → l.length ≤ (del l k).length + 1
  | [], _ => Nat.zero_le _
  | x :: l, h => by
    obtain ⟨h1, h2⟩ := srt_cons.1 h
    unfold del
    cases hx : eqs x.1 k with
    | true =>
      have hk := eqs_iff.1 hx
      rw [List.filter_cons_of_neg (by simp [hx]), List.filter_eq_self.2 (fun y hy => by
        have := lt_ne (h1 y hy)
        rw [hk] at this
        rw [eqs_no this.symm]; rfl)]
      rw [List.length_cons]; exact Nat.le_refl _
    | false =>
      rw [List.filter_cons_of_pos (by simp [hx]), List.length_cons, List.length_cons]
      have := del_len_srt (k := k) h2
      unfold del at this
      omega
end Tp
namespace Go.Proofs.YtpfplojkiloldaaGreatDoor
open Go.RowKit Go.Shelf
theorem LS.pg {w : World} {B : Nat} {A : Option Addr} {l : List RawPg} (h : LS pgE w B A l) {k : Nat} (hk : k < l.length) : ∃ b off, A = some ⟨b, off, none⟩ ∧ b < B ∧ w.cell? ⟨b, off + k * 6, none⟩ = some (.int .i64 l[k].id) ∧ w.cell? ⟨b, off + k * 6 + 1, none⟩ = some (.int .i64 (l[k].depth : Nat)) ∧ w.cell? ⟨b, off + k * 6 + 2, none⟩ = some (.bool l[k].leaf) ∧ w.cell? ⟨b, off + k * 6 + 3, none⟩ = some (.slice l[k].ae l[k].ne l[k].ce) ∧ w.cell? ⟨b, off + k * 6 + 4, none⟩ = some (.slice l[k].ai l[k].ni l[k].ci) ∧ w.cell? ⟨b, off + k * 6 + 5, none⟩ = some (.slice l[k].ay l[k].ny l[k].cy) := by
  obtain ⟨b, off, rfl, hb, hc⟩ := h.at_ hk
  exact ⟨b, off, rfl, hb, hc 0 (by decide), hc 1 (by decide), hc 2 (by decide), hc 3 (by decide), hc 4 (by decide), hc 5 (by decide)⟩
theorem eput_len2 {k v : ByteArray} {es : List Ent} (h : En.Srt es) : (En.put es k v).length = es.length + dput es k := by
  have h1 := eput_len (k := k) (v := v) es
  have h2 := Tp.del_len_srt (k := k) h
  unfold En.put dput at *
  rw [ins_len] at *
  cases hg : En.get es k with
  | none => rw [del_none_ hg]; rfl
  | some v => have := del_len_some hg; simp; omega
section
variable {root : Int} {σ : Tp.Pst} {ids : List Int} {es : List Ent} {tok : Nat} {P : List (Int × Nat × Nd.Node)}
theorem WalkP.low (h : WalkP σ root ids es tok P) (ht : tok ≤ es.length) (hl : es.length ≤ 200) : P.length ≤ 3 * es.length + 1 ∧ ∀ p ∈ P, p.2.1 ≤ 12 ∧ p.2.1 ≤ es.length := by
  rcases h with ⟨rfl, rfl, rfl, rfl⟩ | ⟨h, s, rfl, rfl, rfl, q4, q5, q6, rfl⟩
  · exact ⟨Nat.zero_le _, fun p hp => by cases hp⟩
  · have hh : h ≤ 3 ∧ h ≤ s.es.length := by
      rcases q6 with rfl | q6
      · exact ⟨by omega, by omega⟩
      · have h3 : h ≤ 3 := by
          by_cases hh : h ≤ 3
          · exact hh
          · exfalso
            have : 6 ^ 3 ≤ 6 ^ (h - 1) := Nat.pow_le_pow_right (by decide) (by omega)
            have e : (6 : Nat) ^ 3 = 216 := by decide
            omega
        refine ⟨h3, ?_⟩
        have hc : h = 0 ∨ h = 1 ∨ h = 2 ∨ h = 3 := by omega
        rcases hc with rfl | rfl | rfl | rfl
        · omega
        · simp at q6; omega
        · simp at q6; omega
        · simp at q6; omega
    refine ⟨?_, fun p hp => ?_⟩
    · rw [Tp.pgL_len q5]
      have h1 := Tp.root_le_es q5
      have h2 : h * s.es.length ≤ 3 * s.es.length := Nat.mul_le_mul_right _ hh.1
      omega
    · have := Tp.pgL_deep h 0 s.id p hp
      omega
end
end Go.Proofs.YtpfplojkiloldaaGreatDoor
namespace Tp
open En
theorem put_take {m : List Ent} (h : Srt m) {i : Nat} (hi : i < m.length) : En.put (m.take i) m[i].1 m[i].2 = m.take (i + 1) := by
  have hlt : ∀ x ∈ m.take i, lt x.1 m[i].1 = true := fun x hx => by
    obtain ⟨j, hj, rfl⟩ := List.getElem_of_mem hx
    rw [List.length_take] at hj
    rw [List.getElem_take]
    exact List.pairwise_iff_getElem.1 h j i (by omega) hi (by omega)
  unfold En.put
  rw [del_none (fun x hx => lt_ne (hlt x hx)), List.take_succ_eq_append_getElem hi]
  have e := ins_low (x := m[i]) (a := m.take i) [] hlt
  rw [List.append_nil] at e
  exact e
theorem srt_uniq {l : List Ent} (h : Srt l) {x y : Ent} (hx : x ∈ l) (hy : y ∈ l) (e : x.1 = y.1) : x = y := by
  obtain ⟨i, hi, rfl⟩ := List.getElem_of_mem hx
  obtain ⟨j, hj, rfl⟩ := List.getElem_of_mem hy
  rcases Nat.lt_trichotomy i j with h1 | h1 | h1
  · exact absurd e (lt_ne (List.pairwise_iff_getElem.1 h i j hi hj h1))
  · subst h1; rfl
  · exact absurd e.symm (lt_ne (List.pairwise_iff_getElem.1 h j i hj hi h1))
def KeysIn (es m : List Ent) : Prop := ∀ x ∈ es, ∃ y ∈ m, y.1 = x.1
def HasK (es : List Ent) (k : Str) : Prop := ∃ x ∈ es, x.1 = k
theorem KeysIn.nil_ (m : List Ent) : KeysIn [] m := fun x hx => by cases hx
theorem KeysIn.put {es m : List Ent} (h : KeysIn es m) {k v : Str} (hk : HasK m k) : KeysIn (En.put es k v) m := fun x hx => by
  rcases mem_put.1 hx with rfl | ⟨hx, _⟩
  · exact hk
  · exact h x hx
theorem KeysIn.del {es m : List Ent} (h : KeysIn es m) {k : Str} : KeysIn (En.del es k) m := fun x hx => h x (mem_del.1 hx).1
theorem HasK.put {es : List Ent} {k : Str} (h : HasK es k) (k' v : Str) : HasK (En.put es k' v) k := by
  obtain ⟨x, hx, rfl⟩ := h
  by_cases e : x.1 = k'
  · exact ⟨(k', v), mem_put.2 (.inl rfl), e.symm⟩
  · exact ⟨x, mem_put.2 (.inr ⟨hx, e⟩), rfl⟩
theorem HasK.self (es : List Ent) (k v : Str) : HasK (En.put es k v) k := ⟨(k, v), mem_put.2 (.inl rfl), rfl⟩
theorem HasK.del {es : List Ent} {k : Str} (h : HasK es k) {k' : Str} (hne : k ≠ k') : HasK (En.del es k') k := by
  obtain ⟨x, hx, rfl⟩ := h
  exact ⟨x, mem_del.2 ⟨hx, hne⟩, rfl⟩
theorem order_done {es m : List Ent} (hm : Srt m) (he : Srt es) (hk : KeysIn es m) (hall : ∀ y ∈ m, y ∈ es) : es = m :=
  srt_ext he hm fun x => ⟨fun hx => by
    obtain ⟨y, hy, e⟩ := hk x hx
    rw [← srt_uniq he (hall y hy) hx e]; exact hy, hall x⟩
theorem mem_put_ne {es : List Ent} {y : Ent} (hy : y ∈ es) {k v : Str} (hne : y.1 ≠ k) : y ∈ En.put es k v := mem_put.2 (.inr ⟨hy, hne⟩)
theorem may_other {k v : Str} (h : may k v = true) : may k ⟨#[111, 116, 104, 101, 114]⟩ = true := by
  unfold may at *
  simp only [Bool.and_eq_true, decide_eq_true_eq] at *
  exact ⟨h.1, by decide⟩
end Tp
namespace Go.Proofs.YtpfplojkiloldaaGreatDoor
theorem get_has {es : List Ent} {k : ByteArray} (h : Tp.HasK es k) : (En.get es k).isSome = true := by
  cases hg : En.get es k with
  | some v => rfl
  | none =>
    obtain ⟨x, hx, e⟩ := h
    exact absurd e (get_none hg x hx)
end Go.Proofs.YtpfplojkiloldaaGreatDoor
