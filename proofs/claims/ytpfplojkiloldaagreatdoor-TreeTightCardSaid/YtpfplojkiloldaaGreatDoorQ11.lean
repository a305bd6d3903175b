/- The walks of node.copied, Join: printed by flowgen.py. -/
import Derived.Test.YtpfplojkiloldaaGreatDoorQ10
namespace Go.Proofs.YtpfplojkiloldaaGreatDoor
open Go.RowKit Go.Shelf
set_option maxRecDepth 100000 in
set_option maxHeartbeats 1000000 in
theorem copied_any (v : Value) (n : Nd.Node) (w : World) (h : NS w v n) (hb : NB n) :
    Calls Tryz.prog 146 #[v] w fun e w' => ∃ v', e = .returned v' ∧ NF w.heap.size w' v' n ∧ Below w.heap.size w w' := by
  obtain ⟨Ae, ce, Ai, ci, Ay, cy, rfl, h1, h2, h3⟩ := h
  unfold nodeV
  have hB1 := (Blk.new w 58 #[.bool n.leaf, .slice Ae n.ents.length ce, .slice Ai n.kids.length ci, .slice Ay n.keys.length cy]).alloc (.cells #[.bool false, .slice none 0 0, .slice none 0 0, .slice none 0 0] 58)
  have hB2 := Blk.new (w.alloc (.cells #[.bool n.leaf, .slice Ae n.ents.length ce, .slice Ai n.kids.length ci, .slice Ay n.keys.length cy] 58)) 58 #[.bool false, .slice none 0 0, .slice none 0 0, .slice none 0 0]
  have hb1 := (Below.refl w.heap.size w).alloc (Nat.le_refl _) (.cells #[.bool n.leaf, .slice Ae n.ents.length ce, .slice Ai n.kids.length ci, .slice Ay n.keys.length cy] 58)
  have hb0 := hb1.alloc hb1.size (.cells #[.bool false, .slice none 0 0, .slice none 0 0, .slice none 0 0] 58)
  simp only [World.size_alloc] at hB2
  have be := hb.e
  have bi := hb.i
  have bk := hb.k
  go_enter Tryz.func146, Tryz.ntmps146
  go_wp2_with fail
  have hz : ((w.alloc (.cells #[.bool n.leaf, .slice Ae n.ents.length ce, .slice Ai n.kids.length ci, .slice Ay n.keys.length cy] 58)).alloc (.cells #[.bool false, .slice none 0 0, .slice none 0 0, .slice none 0 0] 58)).heap.size = w.heap.size + 2 := by simp
  generalize (w.alloc (.cells #[.bool n.leaf, .slice Ae n.ents.length ce, .slice Ai n.kids.length ci, .slice Ay n.keys.length cy] 58)).alloc (.cells #[.bool false, .slice none 0 0, .slice none 0 0, .slice none 0 0] 58) = w0 at *
  refine wp_region_flow (base := w.heap.size + 2) (fun u => ⟨#[_, _, _, u 0, u 1, u 2, u 3, u 4, u 5, u 6, u 7, u 8, u 9, u 10, u 11, u 12, u 13, u 14], _⟩)
    [Is.eq _ (.pointer (some ⟨w.heap.size, 0, none⟩)),
   Is.eq _ (.bool n.leaf),
   Is.eq _ (.pointer (some ⟨w.heap.size, 1, none⟩)),
   Is.eq _ (.slice Ae (n.ents).length ce),
   Is.blk _ 32 1 #[.slice Ae (n.ents).length ce],
   Is.row _ entE 38 (n.ents),
   Is.eq _ (.pointer (some ⟨w.heap.size, 2, none⟩)),
   Is.eq _ (.slice Ai (n.kids).length ci),
   Is.blk _ 55 1 #[.slice Ai (n.kids).length ci],
   Is.row _ intE 3 (n.kids),
   Is.eq _ (.pointer (some ⟨w.heap.size, 3, none⟩)),
   Is.eq _ (.slice Ay (n.keys).length cy),
   Is.blk _ 56 1 #[.slice Ay (n.keys).length cy],
   Is.row _ keyE 9 (n.keys),
   Is.node _ (n),
   Is.put _ (w.heap.size + 1) (n)] (by kernel_rfl) (by kernel_rfl) (by kernel_rfl) [w.heap.size + 1] rfl (by omega) (by simp <;> omega) (by simp) ⟨fun i => (fun _ => undef) i, rfl⟩ ?_ ?_
  · intro i o ho u W hf hold hdep
    have hS : ∀ k, k ∈ [w.heap.size + 1] → k = w.heap.size + 1 := fun k hk => by simpa using hk
    have hsz : w.heap.size + 2 ≤ W.heap.size := by have := hf.size; omega
    have hbw : Below w.heap.size w W := hb0.trans (hf.low (by omega) (fun k a => by have := hS k a; omega))
    have hBn := hf.blk hB1 (fun a => by have := hS _ a; omega)
    have cn0 := hBn.cell 0
    have cn1 := hBn.cell 1
    have cn2 := hBn.cell 2
    have cn3 := hBn.cell 3
    match i, ho with
    | 0, ho =>
      have ho := Option.some.inj ho; subst ho
      exact Does.val (op_fan0 rfl rfl) ⟨rfl, rfl, Fr.refl _⟩
    | 1, ho =>
      have ho := Option.some.inj ho; subst ho
      exact Does.val (op_ldbool rfl (hdep 0 rfl) cn0) ⟨rfl, rfl, Fr.refl _⟩
    | 2, ho =>
      have ho := Option.some.inj ho; subst ho
      exact Does.val (op_fan1 rfl rfl) ⟨rfl, rfl, Fr.refl _⟩
    | 3, ho =>
      have ho := Option.some.inj ho; subst ho
      exact Does.val (op_ld_ents rfl (hdep 2 rfl) cn1) ⟨rfl, rfl, Fr.refl _⟩
    | 4, ho =>
      have ho := Option.some.inj ho; subst ho
      exact Does.val (op_bs_ents1 rfl (hdep 3 rfl)) ⟨rfl, ⟨W.heap.size, hsz, rfl, Blk.new _ _ _⟩, .of_below ((Below.refl _ _).alloc (Nat.le_refl _) _)⟩
    | 5, ho =>
      have ho := Option.some.inj ho; subst ho
      obtain ⟨bq, hq0, hq1, hq2⟩ := hdep 4 rfl
      have e1 : conc [(Ae, ce, n.ents)] = n.ents := by simp [conc]
      refine Does.call (op_call ent_e rfl hq1) (Calls.mono (eglue_any bq 1 [(Ae, ce, n.ents)] rfl (by decide) W hq2 (fun p hp => by
        simp only [List.mem_cons, List.not_mem_nil, or_false] at hp
        rcases hp with rfl
        all_goals first | exact (h1.up hbw).ls) (by rw [e1]; first | omega | (simp; omega))) ?_)
      rintro e w' ⟨v, rfl, ho, hbl⟩
      rw [e1] at ho
      exact ⟨v, rfl, rfl, ⟨ho.lower hsz, ho.form⟩, .of_below hbl⟩
    | 6, ho =>
      have ho := Option.some.inj ho; subst ho
      exact Does.val (op_fan2 rfl rfl) ⟨rfl, rfl, Fr.refl _⟩
    | 7, ho =>
      have ho := Option.some.inj ho; subst ho
      exact Does.val (op_ld_ints rfl (hdep 6 rfl) cn2) ⟨rfl, rfl, Fr.refl _⟩
    | 8, ho =>
      have ho := Option.some.inj ho; subst ho
      exact Does.val (op_bs_ints1 rfl (hdep 7 rfl)) ⟨rfl, ⟨W.heap.size, hsz, rfl, Blk.new _ _ _⟩, .of_below ((Below.refl _ _).alloc (Nat.le_refl _) _)⟩
    | 9, ho =>
      have ho := Option.some.inj ho; subst ho
      obtain ⟨bq, hq0, hq1, hq2⟩ := hdep 8 rfl
      have e1 : iconc [(Ai, ci, n.kids)] = n.kids := by simp [iconc]
      refine Does.call (op_call ent_i rfl hq1) (Calls.mono (iglue_any bq 1 [(Ai, ci, n.kids)] rfl (by decide) W hq2 (fun p hp => by
        simp only [List.mem_cons, List.not_mem_nil, or_false] at hp
        rcases hp with rfl
        all_goals first | exact (h2.up hbw).ls) (by rw [e1]; first | omega | (simp; omega))) ?_)
      rintro e w' ⟨v, rfl, ho, hbl⟩
      rw [e1] at ho
      exact ⟨v, rfl, rfl, ⟨ho.lower hsz, ho.form⟩, .of_below hbl⟩
    | 10, ho =>
      have ho := Option.some.inj ho; subst ho
      exact Does.val (op_fan3 rfl rfl) ⟨rfl, rfl, Fr.refl _⟩
    | 11, ho =>
      have ho := Option.some.inj ho; subst ho
      exact Does.val (op_ld_keys rfl (hdep 10 rfl) cn3) ⟨rfl, rfl, Fr.refl _⟩
    | 12, ho =>
      have ho := Option.some.inj ho; subst ho
      exact Does.val (op_bs_keys1 rfl (hdep 11 rfl)) ⟨rfl, ⟨W.heap.size, hsz, rfl, Blk.new _ _ _⟩, .of_below ((Below.refl _ _).alloc (Nat.le_refl _) _)⟩
    | 13, ho =>
      have ho := Option.some.inj ho; subst ho
      obtain ⟨bq, hq0, hq1, hq2⟩ := hdep 12 rfl
      have e1 : kconc [(Ay, cy, n.keys)] = n.keys := by simp [kconc]
      refine Does.call (op_call ent_k rfl hq1) (Calls.mono (kglue_any bq 1 [(Ay, cy, n.keys)] rfl (by decide) W hq2 (fun p hp => by
        simp only [List.mem_cons, List.not_mem_nil, or_false] at hp
        rcases hp with rfl
        all_goals first | exact (h3.up hbw).ls) (by rw [e1]; first | omega | (simp; omega))) ?_)
      rintro e w' ⟨v, rfl, ho, hbl⟩
      rw [e1] at ho
      exact ⟨v, rfl, rfl, ⟨ho.lower hsz, ho.form⟩, .of_below hbl⟩
    | 14, ho =>
      have ho := Option.some.inj ho; subst ho
      obtain ⟨r1, A1, k1, e1⟩ := hdep 5 rfl
      obtain ⟨r2, A2, k2, e2⟩ := hdep 9 rfl
      obtain ⟨r3, A3, k3, e3⟩ := hdep 13 rfl
      exact Does.val (op_bd_all rfl (hdep 1 rfl) e1 e2 e3) ⟨rfl, ⟨A1, k1, A2, k2, A3, k3, rfl, e1 ▸ r1, e2 ▸ r2, e3 ▸ r3⟩, Fr.refl _⟩
    | 15, ho =>
      have ho := Option.some.inj ho; subst ho
      obtain ⟨A1, k1, A2, k2, A3, k3, e, r⟩ := hdep 14 rfl
      refine does_store rfl rfl e ⟨_, _, _, _, _, _, _, _, _, _, rfl⟩ (Eq.trans (hold _ rfl) hB2) rfl fun w' hB hfr => ?_
      exact ⟨rfl, ⟨_, NF.fr ⟨A1, k1, A2, k2, A3, k3, rfl, r⟩ hfr (fun k a => by omega), hB⟩, hfr.more (fun k hk => by rw [hk]; rfl)⟩
    | n + 16, ho => exact absurd ho (by simp)
  · intro u W hf hall
    obtain ⟨cs, ⟨A1, k1, A2, k2, A3, k3, e, r⟩, hBk⟩ := hall 15 (by decide)
    have hS : ∀ k, k ∈ [w.heap.size + 1] → k = w.heap.size + 1 := fun k hk => by simpa using hk
    have hbw : Below w.heap.size w W := hb0.trans (hf.low (by omega) (fun k a => by have := hS k a; omega))
    injection e with e
    subst e
    have hend : NF w.heap.size W (.agg _) (n) := NF.lower ⟨A1, k1, A2, k2, A3, k3, rfl, r⟩ (by omega)
    have HEND := Lib.hid hend
    clear hall hend hf
    go_wp2
    try simp only [Exit.inBlock, Exit.then]
    refine bodyPost_ret (res_cell node_struct rfl rfl hBk rfl) rfl ?_
    first | exact ⟨_, rfl, HEND.out, hbw⟩ | exact ⟨_, rfl, HND.out ▸ HEND.out, hbw⟩
set_option maxRecDepth 100000 in
set_option maxHeartbeats 2000000 in
theorem join_leaf (va vb : Value) (a b : Nd.Node) (key : ByteArray) (hla : a.leaf = true) (hlb : b.leaf = true) (w : World) (ha : NS w va a) (hb : NS w vb b) (hba : NB a) (hbb : NB b) :
    Calls Tryz.prog 153 #[va, .string key, vb] w fun e w' => ∃ v', e = .returned v' ∧ NF w.heap.size w' v' (⟨true, a.ents ++ b.ents, a.kids ++ b.kids, a.keys ++ b.keys⟩) ∧ Below w.heap.size w w' := by
  obtain ⟨Aea, cea, Aia, cia, Aya, cya, rfl, ha1, ha2, ha3⟩ := ha
  obtain ⟨Aeb, ceb, Aib, cib, Ayb, cyb, rfl, hb1, hb2, hb3⟩ := hb
  obtain ⟨ND, hND⟩ : ∃ x : Nd.Node, x = (⟨true, a.ents ++ b.ents, a.kids ++ b.kids, a.keys ++ b.keys⟩) := ⟨_, rfl⟩
  rw [← hND]
  have HND := Lib.hid hND
  clear hND
  unfold nodeV
  rw [hla, hlb]
  have hBa := ((Blk.new w 58 #[.bool true, .slice Aea a.ents.length cea, .slice Aia a.kids.length cia, .slice Aya a.keys.length cya]).alloc (.cells #[.bool true, .slice Aeb b.ents.length ceb, .slice Aib b.kids.length cib, .slice Ayb b.keys.length cyb] 58)).alloc (.cells #[.bool false, .slice none 0 0, .slice none 0 0, .slice none 0 0] 58)
  have hBb := (Blk.new (w.alloc (.cells #[.bool true, .slice Aea a.ents.length cea, .slice Aia a.kids.length cia, .slice Aya a.keys.length cya] 58)) 58 #[.bool true, .slice Aeb b.ents.length ceb, .slice Aib b.kids.length cib, .slice Ayb b.keys.length cyb]).alloc (.cells #[.bool false, .slice none 0 0, .slice none 0 0, .slice none 0 0] 58)
  have hBr := Blk.new ((w.alloc (.cells #[.bool true, .slice Aea a.ents.length cea, .slice Aia a.kids.length cia, .slice Aya a.keys.length cya] 58)).alloc (.cells #[.bool true, .slice Aeb b.ents.length ceb, .slice Aib b.kids.length cib, .slice Ayb b.keys.length cyb] 58)) 58 #[.bool false, .slice none 0 0, .slice none 0 0, .slice none 0 0]
  have hx1 := (Below.refl w.heap.size w).alloc (Nat.le_refl _) (.cells #[.bool true, .slice Aea a.ents.length cea, .slice Aia a.kids.length cia, .slice Aya a.keys.length cya] 58)
  have hx2 := hx1.alloc hx1.size (.cells #[.bool true, .slice Aeb b.ents.length ceb, .slice Aib b.kids.length cib, .slice Ayb b.keys.length cyb] 58)
  have hb0 := hx2.alloc hx2.size (.cells #[.bool false, .slice none 0 0, .slice none 0 0, .slice none 0 0] 58)
  simp only [World.size_alloc] at hBb hBr
  have be := hba.e
  have bi := hba.i
  have bk := hba.k
  have ce := hbb.e
  have ci := hbb.i
  have ck := hbb.k
  clear hla hlb hba hbb
  go_enter Tryz.func153, Tryz.ntmps153
  go_wp2_with fail
  have hz : (((w.alloc (.cells #[.bool true, .slice Aea a.ents.length cea, .slice Aia a.kids.length cia, .slice Aya a.keys.length cya] 58)).alloc (.cells #[.bool true, .slice Aeb b.ents.length ceb, .slice Aib b.kids.length cib, .slice Ayb b.keys.length cyb] 58)).alloc (.cells #[.bool false, .slice none 0 0, .slice none 0 0, .slice none 0 0] 58)).heap.size = w.heap.size + 3 := by simp
  generalize ((w.alloc (.cells #[.bool true, .slice Aea a.ents.length cea, .slice Aia a.kids.length cia, .slice Aya a.keys.length cya] 58)).alloc (.cells #[.bool true, .slice Aeb b.ents.length ceb, .slice Aib b.kids.length cib, .slice Ayb b.keys.length cyb] 58)).alloc (.cells #[.bool false, .slice none 0 0, .slice none 0 0, .slice none 0 0] 58) = w0 at *
  refine wp_region_flow (base := w.heap.size + 3) (fun u => ⟨#[_, _, _, _, _, _, _, _, _, _, _, _, _, _, _, _, _, _, u 0, u 1, u 2, u 3, u 4, u 5, u 6, u 7, u 8, u 9, u 10, u 11, u 12, u 13, u 14, u 15, u 16, u 17, u 18, _, _, _, _, _, _, _, _, _, _, _, _, _, _, _, _, _, _, _, _, _], _⟩)
    [Is.eq _ (.pointer (some ⟨w.heap.size, 1, none⟩)),
   Is.eq _ (.slice Aea (a.ents).length cea),
   Is.eq _ (.pointer (some ⟨w.heap.size + 1, 1, none⟩)),
   Is.eq _ (.slice Aeb (b.ents).length ceb),
   Is.blk _ 32 2 #[.slice Aea (a.ents).length cea, .slice Aeb (b.ents).length ceb],
   Is.row _ entE 38 (a.ents ++ b.ents),
   Is.eq _ (.pointer (some ⟨w.heap.size, 2, none⟩)),
   Is.eq _ (.slice Aia (a.kids).length cia),
   Is.eq _ (.pointer (some ⟨w.heap.size + 1, 2, none⟩)),
   Is.eq _ (.slice Aib (b.kids).length cib),
   Is.blk _ 55 2 #[.slice Aia (a.kids).length cia, .slice Aib (b.kids).length cib],
   Is.row _ intE 3 (a.kids ++ b.kids),
   Is.eq _ (.pointer (some ⟨w.heap.size, 3, none⟩)),
   Is.eq _ (.slice Aya (a.keys).length cya),
   Is.eq _ (.pointer (some ⟨w.heap.size + 1, 3, none⟩)),
   Is.eq _ (.slice Ayb (b.keys).length cyb),
   Is.blk _ 56 2 #[.slice Aya (a.keys).length cya, .slice Ayb (b.keys).length cyb],
   Is.row _ keyE 9 (a.keys ++ b.keys),
   Is.node _ (⟨true, a.ents ++ b.ents, a.kids ++ b.kids, a.keys ++ b.keys⟩),
   Is.put _ (w.heap.size + 2) (⟨true, a.ents ++ b.ents, a.kids ++ b.kids, a.keys ++ b.keys⟩)] (by kernel_rfl) (by kernel_rfl) (by kernel_rfl) [w.heap.size + 2] rfl (by omega) (by simp <;> omega) (by simp) ⟨fun i => (fun _ => undef) i, rfl⟩ ?_ ?_
  · intro i o ho u W hf hold hdep
    have hS : ∀ k, k ∈ [w.heap.size + 2] → k = w.heap.size + 2 := fun k hk => by simpa using hk
    have hsz : w.heap.size + 3 ≤ W.heap.size := by have := hf.size; omega
    have hbw : Below w.heap.size w W := hb0.trans (hf.low (by omega) (fun k a => by have := hS k a; omega))
    have hBA := hf.blk hBa (fun a => by have := hS _ a; omega)
    have ca0 := hBA.cell 0
    have ca1 := hBA.cell 1
    have ca2 := hBA.cell 2
    have ca3 := hBA.cell 3
    have hBB := hf.blk hBb (fun a => by have := hS _ a; omega)
    have cb0 := hBB.cell 0
    have cb1 := hBB.cell 1
    have cb2 := hBB.cell 2
    have cb3 := hBB.cell 3
    match i, ho with
    | 0, ho =>
      have ho := Option.some.inj ho; subst ho
      exact Does.val (op_fan1 rfl rfl) ⟨rfl, rfl, Fr.refl _⟩
    | 1, ho =>
      have ho := Option.some.inj ho; subst ho
      exact Does.val (op_ld_ents rfl (hdep 0 rfl) ca1) ⟨rfl, rfl, Fr.refl _⟩
    | 2, ho =>
      have ho := Option.some.inj ho; subst ho
      exact Does.val (op_fan1 rfl rfl) ⟨rfl, rfl, Fr.refl _⟩
    | 3, ho =>
      have ho := Option.some.inj ho; subst ho
      exact Does.val (op_ld_ents rfl (hdep 2 rfl) cb1) ⟨rfl, rfl, Fr.refl _⟩
    | 4, ho =>
      have ho := Option.some.inj ho; subst ho
      exact Does.val (op_bs_ents2 rfl (hdep 1 rfl) (hdep 3 rfl)) ⟨rfl, ⟨W.heap.size, hsz, rfl, Blk.new _ _ _⟩, .of_below ((Below.refl _ _).alloc (Nat.le_refl _) _)⟩
    | 5, ho =>
      have ho := Option.some.inj ho; subst ho
      obtain ⟨bq, hq0, hq1, hq2⟩ := hdep 4 rfl
      have e1 : conc [(Aea, cea, a.ents), (Aeb, ceb, b.ents)] = a.ents ++ b.ents := by simp [conc]
      refine Does.call (op_call ent_e rfl hq1) (Calls.mono (eglue_any bq 2 [(Aea, cea, a.ents), (Aeb, ceb, b.ents)] rfl (by decide) W hq2 (fun p hp => by
        simp only [List.mem_cons, List.not_mem_nil, or_false] at hp
        rcases hp with rfl | rfl
        all_goals first | exact (ha1.up hbw).ls | exact (hb1.up hbw).ls) (by rw [e1]; first | omega | (simp; omega))) ?_)
      rintro e w' ⟨v, rfl, ho, hbl⟩
      rw [e1] at ho
      exact ⟨v, rfl, rfl, ⟨ho.lower hsz, ho.form⟩, .of_below hbl⟩
    | 6, ho =>
      have ho := Option.some.inj ho; subst ho
      exact Does.val (op_fan2 rfl rfl) ⟨rfl, rfl, Fr.refl _⟩
    | 7, ho =>
      have ho := Option.some.inj ho; subst ho
      exact Does.val (op_ld_ints rfl (hdep 6 rfl) ca2) ⟨rfl, rfl, Fr.refl _⟩
    | 8, ho =>
      have ho := Option.some.inj ho; subst ho
      exact Does.val (op_fan2 rfl rfl) ⟨rfl, rfl, Fr.refl _⟩
    | 9, ho =>
      have ho := Option.some.inj ho; subst ho
      exact Does.val (op_ld_ints rfl (hdep 8 rfl) cb2) ⟨rfl, rfl, Fr.refl _⟩
    | 10, ho =>
      have ho := Option.some.inj ho; subst ho
      exact Does.val (op_bs_ints2 rfl (hdep 7 rfl) (hdep 9 rfl)) ⟨rfl, ⟨W.heap.size, hsz, rfl, Blk.new _ _ _⟩, .of_below ((Below.refl _ _).alloc (Nat.le_refl _) _)⟩
    | 11, ho =>
      have ho := Option.some.inj ho; subst ho
      obtain ⟨bq, hq0, hq1, hq2⟩ := hdep 10 rfl
      have e1 : iconc [(Aia, cia, a.kids), (Aib, cib, b.kids)] = a.kids ++ b.kids := by simp [iconc]
      refine Does.call (op_call ent_i rfl hq1) (Calls.mono (iglue_any bq 2 [(Aia, cia, a.kids), (Aib, cib, b.kids)] rfl (by decide) W hq2 (fun p hp => by
        simp only [List.mem_cons, List.not_mem_nil, or_false] at hp
        rcases hp with rfl | rfl
        all_goals first | exact (ha2.up hbw).ls | exact (hb2.up hbw).ls) (by rw [e1]; first | omega | (simp; omega))) ?_)
      rintro e w' ⟨v, rfl, ho, hbl⟩
      rw [e1] at ho
      exact ⟨v, rfl, rfl, ⟨ho.lower hsz, ho.form⟩, .of_below hbl⟩
    | 12, ho =>
      have ho := Option.some.inj ho; subst ho
      exact Does.val (op_fan3 rfl rfl) ⟨rfl, rfl, Fr.refl _⟩
    | 13, ho =>
      have ho := Option.some.inj ho; subst ho
      exact Does.val (op_ld_keys rfl (hdep 12 rfl) ca3) ⟨rfl, rfl, Fr.refl _⟩
    | 14, ho =>
      have ho := Option.some.inj ho; subst ho
      exact Does.val (op_fan3 rfl rfl) ⟨rfl, rfl, Fr.refl _⟩
    | 15, ho =>
      have ho := Option.some.inj ho; subst ho
      exact Does.val (op_ld_keys rfl (hdep 14 rfl) cb3) ⟨rfl, rfl, Fr.refl _⟩
    | 16, ho =>
      have ho := Option.some.inj ho; subst ho
      exact Does.val (op_bs_keys2 rfl (hdep 13 rfl) (hdep 15 rfl)) ⟨rfl, ⟨W.heap.size, hsz, rfl, Blk.new _ _ _⟩, .of_below ((Below.refl _ _).alloc (Nat.le_refl _) _)⟩
    | 17, ho =>
      have ho := Option.some.inj ho; subst ho
      obtain ⟨bq, hq0, hq1, hq2⟩ := hdep 16 rfl
      have e1 : kconc [(Aya, cya, a.keys), (Ayb, cyb, b.keys)] = a.keys ++ b.keys := by simp [kconc]
      refine Does.call (op_call ent_k rfl hq1) (Calls.mono (kglue_any bq 2 [(Aya, cya, a.keys), (Ayb, cyb, b.keys)] rfl (by decide) W hq2 (fun p hp => by
        simp only [List.mem_cons, List.not_mem_nil, or_false] at hp
        rcases hp with rfl | rfl
        all_goals first | exact (ha3.up hbw).ls | exact (hb3.up hbw).ls) (by rw [e1]; first | omega | (simp; omega))) ?_)
      rintro e w' ⟨v, rfl, ho, hbl⟩
      rw [e1] at ho
      exact ⟨v, rfl, rfl, ⟨ho.lower hsz, ho.form⟩, .of_below hbl⟩
    | 18, ho =>
      have ho := Option.some.inj ho; subst ho
      obtain ⟨r1, A1, k1, e1⟩ := hdep 5 rfl
      obtain ⟨r2, A2, k2, e2⟩ := hdep 11 rfl
      obtain ⟨r3, A3, k3, e3⟩ := hdep 17 rfl
      exact Does.val (op_bd_all rfl rfl e1 e2 e3) ⟨rfl, ⟨A1, k1, A2, k2, A3, k3, rfl, e1 ▸ r1, e2 ▸ r2, e3 ▸ r3⟩, Fr.refl _⟩
    | 19, ho =>
      have ho := Option.some.inj ho; subst ho
      obtain ⟨A1, k1, A2, k2, A3, k3, e, r⟩ := hdep 18 rfl
      refine does_store rfl rfl e ⟨_, _, _, _, _, _, _, _, _, _, rfl⟩ (Eq.trans (hold _ rfl) hBr) rfl fun w' hB hfr => ?_
      exact ⟨rfl, ⟨_, NF.fr ⟨A1, k1, A2, k2, A3, k3, rfl, r⟩ hfr (fun k a => by omega), hB⟩, hfr.more (fun k hk => by rw [hk]; rfl)⟩
    | n + 20, ho => exact absurd ho (by simp)
  · intro u W hf hall
    obtain ⟨cs, ⟨A1, k1, A2, k2, A3, k3, e, r⟩, hBk⟩ := hall 19 (by decide)
    have hS : ∀ k, k ∈ [w.heap.size + 2] → k = w.heap.size + 2 := fun k hk => by simpa using hk
    have hbw : Below w.heap.size w W := hb0.trans (hf.low (by omega) (fun k a => by have := hS k a; omega))
    injection e with e
    subst e
    have hend : NF w.heap.size W (.agg _) (⟨true, a.ents ++ b.ents, a.kids ++ b.kids, a.keys ++ b.keys⟩) := NF.lower ⟨A1, k1, A2, k2, A3, k3, rfl, r⟩ (by omega)
    have HEND := Lib.hid hend
    clear hall hend hf
    go_wp2
    try simp only [Exit.inBlock, Exit.then]
    refine bodyPost_ret (res_cell node_struct rfl rfl hBk rfl) rfl ?_
    first | exact ⟨_, rfl, HEND.out, hbw⟩ | exact ⟨_, rfl, HND.out ▸ HEND.out, hbw⟩
set_option maxRecDepth 100000 in
set_option maxHeartbeats 2000000 in
theorem join_inner (va vb : Value) (a b : Nd.Node) (key : ByteArray) (hla : a.leaf = false) (hlb : b.leaf = false) (w : World) (ha : NS w va a) (hb : NS w vb b) (hba : NB a) (hbb : NB b) :
    Calls Tryz.prog 153 #[va, .string key, vb] w fun e w' => ∃ v', e = .returned v' ∧ NF w.heap.size w' v' (⟨false, a.ents ++ b.ents, a.kids ++ b.kids, a.keys ++ [key] ++ b.keys⟩) ∧ Below w.heap.size w w' := by
  obtain ⟨Aea, cea, Aia, cia, Aya, cya, rfl, ha1, ha2, ha3⟩ := ha
  obtain ⟨Aeb, ceb, Aib, cib, Ayb, cyb, rfl, hb1, hb2, hb3⟩ := hb
  obtain ⟨ND, hND⟩ : ∃ x : Nd.Node, x = (⟨false, a.ents ++ b.ents, a.kids ++ b.kids, a.keys ++ [key] ++ b.keys⟩) := ⟨_, rfl⟩
  rw [← hND]
  have HND := Lib.hid hND
  clear hND
  unfold nodeV
  rw [hla, hlb]
  have hBa := ((Blk.new w 58 #[.bool false, .slice Aea a.ents.length cea, .slice Aia a.kids.length cia, .slice Aya a.keys.length cya]).alloc (.cells #[.bool false, .slice Aeb b.ents.length ceb, .slice Aib b.kids.length cib, .slice Ayb b.keys.length cyb] 58)).alloc (.cells #[.bool false, .slice none 0 0, .slice none 0 0, .slice none 0 0] 58)
  have hBb := (Blk.new (w.alloc (.cells #[.bool false, .slice Aea a.ents.length cea, .slice Aia a.kids.length cia, .slice Aya a.keys.length cya] 58)) 58 #[.bool false, .slice Aeb b.ents.length ceb, .slice Aib b.kids.length cib, .slice Ayb b.keys.length cyb]).alloc (.cells #[.bool false, .slice none 0 0, .slice none 0 0, .slice none 0 0] 58)
  have hBr := Blk.new ((w.alloc (.cells #[.bool false, .slice Aea a.ents.length cea, .slice Aia a.kids.length cia, .slice Aya a.keys.length cya] 58)).alloc (.cells #[.bool false, .slice Aeb b.ents.length ceb, .slice Aib b.kids.length cib, .slice Ayb b.keys.length cyb] 58)) 58 #[.bool false, .slice none 0 0, .slice none 0 0, .slice none 0 0]
  have hx1 := (Below.refl w.heap.size w).alloc (Nat.le_refl _) (.cells #[.bool false, .slice Aea a.ents.length cea, .slice Aia a.kids.length cia, .slice Aya a.keys.length cya] 58)
  have hx2 := hx1.alloc hx1.size (.cells #[.bool false, .slice Aeb b.ents.length ceb, .slice Aib b.kids.length cib, .slice Ayb b.keys.length cyb] 58)
  have hb0 := hx2.alloc hx2.size (.cells #[.bool false, .slice none 0 0, .slice none 0 0, .slice none 0 0] 58)
  simp only [World.size_alloc] at hBb hBr
  have be := hba.e
  have bi := hba.i
  have bk := hba.k
  have ce := hbb.e
  have ci := hbb.i
  have ck := hbb.k
  clear hla hlb hba hbb
  go_enter Tryz.func153, Tryz.ntmps153
  go_wp2_with fail
  have hz : (((w.alloc (.cells #[.bool false, .slice Aea a.ents.length cea, .slice Aia a.kids.length cia, .slice Aya a.keys.length cya] 58)).alloc (.cells #[.bool false, .slice Aeb b.ents.length ceb, .slice Aib b.kids.length cib, .slice Ayb b.keys.length cyb] 58)).alloc (.cells #[.bool false, .slice none 0 0, .slice none 0 0, .slice none 0 0] 58)).heap.size = w.heap.size + 3 := by simp
  generalize ((w.alloc (.cells #[.bool false, .slice Aea a.ents.length cea, .slice Aia a.kids.length cia, .slice Aya a.keys.length cya] 58)).alloc (.cells #[.bool false, .slice Aeb b.ents.length ceb, .slice Aib b.kids.length cib, .slice Ayb b.keys.length cyb] 58)).alloc (.cells #[.bool false, .slice none 0 0, .slice none 0 0, .slice none 0 0] 58) = w0 at *
  refine wp_region_flow (base := w.heap.size + 3) (fun u => ⟨#[_, _, _, _, _, _, _, _, _, _, _, _, _, _, _, _, _, _, _, _, _, _, _, _, _, _, _, _, _, _, _, _, _, _, _, _, _, u 0, u 1, u 2, u 3, u 4, u 5, u 6, u 7, u 8, u 9, u 10, u 11, u 12, u 13, u 14, u 15, u 16, u 17, u 18, u 19, u 20], _⟩)
    [Is.eq _ (.pointer (some ⟨w.heap.size, 1, none⟩)),
   Is.eq _ (.slice Aea (a.ents).length cea),
   Is.eq _ (.pointer (some ⟨w.heap.size + 1, 1, none⟩)),
   Is.eq _ (.slice Aeb (b.ents).length ceb),
   Is.blk _ 32 2 #[.slice Aea (a.ents).length cea, .slice Aeb (b.ents).length ceb],
   Is.row _ entE 38 (a.ents ++ b.ents),
   Is.eq _ (.pointer (some ⟨w.heap.size, 2, none⟩)),
   Is.eq _ (.slice Aia (a.kids).length cia),
   Is.eq _ (.pointer (some ⟨w.heap.size + 1, 2, none⟩)),
   Is.eq _ (.slice Aib (b.kids).length cib),
   Is.blk _ 55 2 #[.slice Aia (a.kids).length cia, .slice Aib (b.kids).length cib],
   Is.row _ intE 3 (a.kids ++ b.kids),
   Is.eq _ (.pointer (some ⟨w.heap.size, 3, none⟩)),
   Is.eq _ (.slice Aya (a.keys).length cya),
   Is.eq _ (.string key),
   Is.blk _ 9 1 #[.string key],
   Is.eq _ (.pointer (some ⟨w.heap.size + 1, 3, none⟩)),
   Is.eq _ (.slice Ayb (b.keys).length cyb),
   Is.key3 _ (.slice Aya (a.keys).length cya) (.slice Ayb (b.keys).length cyb) key,
   Is.row _ keyE 9 (a.keys ++ [key] ++ b.keys),
   Is.node _ (⟨false, a.ents ++ b.ents, a.kids ++ b.kids, a.keys ++ [key] ++ b.keys⟩),
   Is.put _ (w.heap.size + 2) (⟨false, a.ents ++ b.ents, a.kids ++ b.kids, a.keys ++ [key] ++ b.keys⟩)] (by kernel_rfl) (by kernel_rfl) (by kernel_rfl) [w.heap.size + 2] rfl (by omega) (by simp <;> omega) (by simp) ⟨fun i => (fun _ => undef) i, rfl⟩ ?_ ?_
  · intro i o ho u W hf hold hdep
    have hS : ∀ k, k ∈ [w.heap.size + 2] → k = w.heap.size + 2 := fun k hk => by simpa using hk
    have hsz : w.heap.size + 3 ≤ W.heap.size := by have := hf.size; omega
    have hbw : Below w.heap.size w W := hb0.trans (hf.low (by omega) (fun k a => by have := hS k a; omega))
    have hBA := hf.blk hBa (fun a => by have := hS _ a; omega)
    have ca0 := hBA.cell 0
    have ca1 := hBA.cell 1
    have ca2 := hBA.cell 2
    have ca3 := hBA.cell 3
    have hBB := hf.blk hBb (fun a => by have := hS _ a; omega)
    have cb0 := hBB.cell 0
    have cb1 := hBB.cell 1
    have cb2 := hBB.cell 2
    have cb3 := hBB.cell 3
    match i, ho with
    | 0, ho =>
      have ho := Option.some.inj ho; subst ho
      exact Does.val (op_fan1 rfl rfl) ⟨rfl, rfl, Fr.refl _⟩
    | 1, ho =>
      have ho := Option.some.inj ho; subst ho
      exact Does.val (op_ld_ents rfl (hdep 0 rfl) ca1) ⟨rfl, rfl, Fr.refl _⟩
    | 2, ho =>
      have ho := Option.some.inj ho; subst ho
      exact Does.val (op_fan1 rfl rfl) ⟨rfl, rfl, Fr.refl _⟩
    | 3, ho =>
      have ho := Option.some.inj ho; subst ho
      exact Does.val (op_ld_ents rfl (hdep 2 rfl) cb1) ⟨rfl, rfl, Fr.refl _⟩
    | 4, ho =>
      have ho := Option.some.inj ho; subst ho
      exact Does.val (op_bs_ents2 rfl (hdep 1 rfl) (hdep 3 rfl)) ⟨rfl, ⟨W.heap.size, hsz, rfl, Blk.new _ _ _⟩, .of_below ((Below.refl _ _).alloc (Nat.le_refl _) _)⟩
    | 5, ho =>
      have ho := Option.some.inj ho; subst ho
      obtain ⟨bq, hq0, hq1, hq2⟩ := hdep 4 rfl
      have e1 : conc [(Aea, cea, a.ents), (Aeb, ceb, b.ents)] = a.ents ++ b.ents := by simp [conc]
      refine Does.call (op_call ent_e rfl hq1) (Calls.mono (eglue_any bq 2 [(Aea, cea, a.ents), (Aeb, ceb, b.ents)] rfl (by decide) W hq2 (fun p hp => by
        simp only [List.mem_cons, List.not_mem_nil, or_false] at hp
        rcases hp with rfl | rfl
        all_goals first | exact (ha1.up hbw).ls | exact (hb1.up hbw).ls) (by rw [e1]; first | omega | (simp; omega))) ?_)
      rintro e w' ⟨v, rfl, ho, hbl⟩
      rw [e1] at ho
      exact ⟨v, rfl, rfl, ⟨ho.lower hsz, ho.form⟩, .of_below hbl⟩
    | 6, ho =>
      have ho := Option.some.inj ho; subst ho
      exact Does.val (op_fan2 rfl rfl) ⟨rfl, rfl, Fr.refl _⟩
    | 7, ho =>
      have ho := Option.some.inj ho; subst ho
      exact Does.val (op_ld_ints rfl (hdep 6 rfl) ca2) ⟨rfl, rfl, Fr.refl _⟩
    | 8, ho =>
      have ho := Option.some.inj ho; subst ho
      exact Does.val (op_fan2 rfl rfl) ⟨rfl, rfl, Fr.refl _⟩
    | 9, ho =>
      have ho := Option.some.inj ho; subst ho
      exact Does.val (op_ld_ints rfl (hdep 8 rfl) cb2) ⟨rfl, rfl, Fr.refl _⟩
    | 10, ho =>
      have ho := Option.some.inj ho; subst ho
      exact Does.val (op_bs_ints2 rfl (hdep 7 rfl) (hdep 9 rfl)) ⟨rfl, ⟨W.heap.size, hsz, rfl, Blk.new _ _ _⟩, .of_below ((Below.refl _ _).alloc (Nat.le_refl _) _)⟩
    | 11, ho =>
      have ho := Option.some.inj ho; subst ho
      obtain ⟨bq, hq0, hq1, hq2⟩ := hdep 10 rfl
      have e1 : iconc [(Aia, cia, a.kids), (Aib, cib, b.kids)] = a.kids ++ b.kids := by simp [iconc]
      refine Does.call (op_call ent_i rfl hq1) (Calls.mono (iglue_any bq 2 [(Aia, cia, a.kids), (Aib, cib, b.kids)] rfl (by decide) W hq2 (fun p hp => by
        simp only [List.mem_cons, List.not_mem_nil, or_false] at hp
        rcases hp with rfl | rfl
        all_goals first | exact (ha2.up hbw).ls | exact (hb2.up hbw).ls) (by rw [e1]; first | omega | (simp; omega))) ?_)
      rintro e w' ⟨v, rfl, ho, hbl⟩
      rw [e1] at ho
      exact ⟨v, rfl, rfl, ⟨ho.lower hsz, ho.form⟩, .of_below hbl⟩
    | 12, ho =>
      have ho := Option.some.inj ho; subst ho
      exact Does.val (op_fan3 rfl rfl) ⟨rfl, rfl, Fr.refl _⟩
    | 13, ho =>
      have ho := Option.some.inj ho; subst ho
      exact Does.val (op_ld_keys rfl (hdep 12 rfl) ca3) ⟨rfl, rfl, Fr.refl _⟩
    | 14, ho =>
      have ho := Option.some.inj ho; subst ho
      exact Does.val (op_mv rfl rfl) ⟨rfl, rfl, Fr.refl _⟩
    | 15, ho =>
      have ho := Option.some.inj ho; subst ho
      exact Does.val (op_bs_str rfl (hdep 14 rfl)) ⟨rfl, ⟨W.heap.size, hsz, rfl, Blk.new _ _ _⟩, .of_below ((Below.refl _ _).alloc (Nat.le_refl _) _)⟩
    | 16, ho =>
      have ho := Option.some.inj ho; subst ho
      exact Does.val (op_fan3 rfl rfl) ⟨rfl, rfl, Fr.refl _⟩
    | 17, ho =>
      have ho := Option.some.inj ho; subst ho
      exact Does.val (op_ld_keys rfl (hdep 16 rfl) cb3) ⟨rfl, rfl, Fr.refl _⟩
    | 18, ho =>
      have ho := Option.some.inj ho; subst ho
      obtain ⟨b', hb0', hb1', hb2'⟩ := hdep 15 rfl
      exact Does.val (op_bs_keys3 rfl (hdep 13 rfl) hb1' (hdep 17 rfl)) ⟨rfl, ⟨W.heap.size, b', hsz, hb0', rfl, Blk.new _ _ _, hb2'.alloc _⟩, .of_below ((Below.refl _ _).alloc (Nat.le_refl _) _)⟩
    | 19, ho =>
      have ho := Option.some.inj ho; subst ho
      obtain ⟨bb, b', hb0', hb0'', hb1', hb2', hb3'⟩ := hdep 18 rfl
      have e1 : kconc [(Aya, cya, a.keys), (some ⟨b', 0, none⟩, 1, [key]), (Ayb, cyb, b.keys)] = a.keys ++ [key] ++ b.keys := by simp [kconc]
      refine Does.call (op_call ent_k rfl hb1') (Calls.mono (kglue_any bb 3 [(Aya, cya, a.keys), (some ⟨b', 0, none⟩, 1, [key]), (Ayb, cyb, b.keys)] rfl (by decide) W hb2' (fun p hp => by
        simp only [List.mem_cons, List.not_mem_nil, or_false] at hp
        rcases hp with rfl | rfl | rfl
        · exact (ha3.up hbw).ls
        · exact ls_one hb3' hb3'.lt
        · exact (hb3.up hbw).ls) (by rw [e1]; simp; omega)) ?_)
      rintro e w' ⟨v, rfl, ho, hbl⟩
      rw [e1] at ho
      exact ⟨v, rfl, rfl, ⟨ho.lower hsz, ho.form⟩, .of_below hbl⟩
    | 20, ho =>
      have ho := Option.some.inj ho; subst ho
      obtain ⟨r1, A1, k1, e1⟩ := hdep 5 rfl
      obtain ⟨r2, A2, k2, e2⟩ := hdep 11 rfl
      obtain ⟨r3, A3, k3, e3⟩ := hdep 19 rfl
      exact Does.val (op_bd_join rfl e1 e2 e3) ⟨rfl, ⟨A1, k1, A2, k2, A3, k3, rfl, e1 ▸ r1, e2 ▸ r2, e3 ▸ r3⟩, Fr.refl _⟩
    | 21, ho =>
      have ho := Option.some.inj ho; subst ho
      obtain ⟨A1, k1, A2, k2, A3, k3, e, r⟩ := hdep 20 rfl
      refine does_store rfl rfl e ⟨_, _, _, _, _, _, _, _, _, _, rfl⟩ (Eq.trans (hold _ rfl) hBr) rfl fun w' hB hfr => ?_
      exact ⟨rfl, ⟨_, NF.fr ⟨A1, k1, A2, k2, A3, k3, rfl, r⟩ hfr (fun k a => by omega), hB⟩, hfr.more (fun k hk => by rw [hk]; rfl)⟩
    | n + 22, ho => exact absurd ho (by simp)
  · intro u W hf hall
    obtain ⟨cs, ⟨A1, k1, A2, k2, A3, k3, e, r⟩, hBk⟩ := hall 21 (by decide)
    have hS : ∀ k, k ∈ [w.heap.size + 2] → k = w.heap.size + 2 := fun k hk => by simpa using hk
    have hbw : Below w.heap.size w W := hb0.trans (hf.low (by omega) (fun k a => by have := hS k a; omega))
    injection e with e
    subst e
    have hend : NF w.heap.size W (.agg _) (⟨false, a.ents ++ b.ents, a.kids ++ b.kids, a.keys ++ [key] ++ b.keys⟩) := NF.lower ⟨A1, k1, A2, k2, A3, k3, rfl, r⟩ (by omega)
    have HEND := Lib.hid hend
    clear hall hend hf
    go_wp2
    try simp only [Exit.inBlock, Exit.then]
    refine bodyPost_ret (res_cell node_struct rfl rfl hBk rfl) rfl ?_
    first | exact ⟨_, rfl, HEND.out, hbw⟩ | exact ⟨_, rfl, HND.out ▸ HEND.out, hbw⟩
end Go.Proofs.YtpfplojkiloldaaGreatDoor
