/- The walks of node.Swap: printed by flowgen.py. Plain: what an operation on a change's pages takes, and what it gives. -/
import Derived.Test.YtpfplojkiloldaaGreatDoorQ09
import Derived.Test.YtpfplojkiloldaaGreatDoorQ10
namespace Go.Proofs.YtpfplojkiloldaaGreatDoor
open Go.RowKit Go.Shelf
set_option maxRecDepth 100000 in
set_option maxHeartbeats 2000000 in
theorem swap_some (v : Value) (n : Nd.Node) (Ax Az : Option Addr) (cx cz fr to_ : Nat) (xs : List Int) (zs : List ByteArray) (hlf : n.leaf = false) (hft : fr < to_) (hto : to_ ≤ n.kids.length) (hnk : n.keys.length + 1 = n.kids.length) (hk : zs.length + 1 = xs.length) (lo hi : Nat) (hlo : lo = fr) (hhie : hi = to_ - 1) (w : World) (h : NS w v n) (hb : NB n) (hx : SV intE w Ax cx xs) (hy : SV keyE w Az cz zs) (hxl : xs.length ≤ 100000) :
    Calls Tryz.prog 112 #[v, .int .i64 fr, .int .i64 to_, .slice Ax xs.length cx, .slice Az zs.length cz] w fun e w' => ∃ v', e = .returned v' ∧ NF w.heap.size w' v' (Nd.mkInner (n.kids.take fr ++ xs ++ n.kids.drop to_) (n.keys.take lo ++ zs ++ n.keys.drop hi)) ∧ Below w.heap.size w w' := by
  obtain ⟨Ae, ce, Ai, ci, Ay, cy, rfl, h1, h2, h3⟩ := h
  have hlo2 : lo ≤ n.keys.length := by omega
  have hhi : hi ≤ n.keys.length := by omega
  have hkt : (n.kids.take fr).length = fr := by rw [List.length_take]; omega
  have hyt : (n.keys.take lo).length = lo := by rw [List.length_take]; omega
  obtain ⟨ND, hND⟩ : ∃ x, x = (Nd.mkInner (n.kids.take fr ++ xs ++ n.kids.drop to_) (n.keys.take lo ++ zs ++ n.keys.drop hi)) := ⟨_, rfl⟩
  rw [← hND]
  have HND := Lib.hid hND
  clear hND
  unfold nodeV
  rw [hlf]
  have hB1 := (Blk.new w 58 #[.bool false, .slice Ae n.ents.length ce, .slice Ai n.kids.length ci, .slice Ay n.keys.length cy]).alloc (.cells #[.bool false, .slice none 0 0, .slice none 0 0, .slice none 0 0] 58)
  have hB2 := Blk.new (w.alloc (.cells #[.bool false, .slice Ae n.ents.length ce, .slice Ai n.kids.length ci, .slice Ay n.keys.length cy] 58)) 58 #[.bool false, .slice none 0 0, .slice none 0 0, .slice none 0 0]
  have hb1 := (Below.refl w.heap.size w).alloc (Nat.le_refl _) (.cells #[.bool false, .slice Ae n.ents.length ce, .slice Ai n.kids.length ci, .slice Ay n.keys.length cy] 58)
  have hb0 := hb1.alloc hb1.size (.cells #[.bool false, .slice none 0 0, .slice none 0 0, .slice none 0 0] 58)
  simp only [World.size_alloc] at hB2
  have be := hb.e
  have bi := hb.i
  have bk := hb.k
  clear hlf hb
  have q1 : decide ((fr : Int) < 0) = false := by rw [decide_eq_false_iff_not]; omega
  have q2 : ¬ n.kids.length < to_ := by omega
  have q3 : ¬ to_ ≤ fr := by omega
  have q4 : ((zs.length : Int) != max ((xs.length : Int) - 1) 0) = false := by rw [bne_eq_false_iff_eq]; omega
  have g1 : ((to_ : Int) - 1) = ((hi : Nat) : Int) := by omega
  have g2 : ((xs.length : Int) == 0) = false := by rw [beq_eq_false_iff_ne]; omega
  subst lo
  clear hhie
  go_enter Tryz.func112, Tryz.ntmps112
  go_wp2_with fail
  have hz : ((w.alloc (.cells #[.bool false, .slice Ae n.ents.length ce, .slice Ai n.kids.length ci, .slice Ay n.keys.length cy] 58)).alloc (.cells #[.bool false, .slice none 0 0, .slice none 0 0, .slice none 0 0] 58)).heap.size = w.heap.size + 2 := by simp
  generalize (w.alloc (.cells #[.bool false, .slice Ae n.ents.length ce, .slice Ai n.kids.length ci, .slice Ay n.keys.length cy] 58)).alloc (.cells #[.bool false, .slice none 0 0, .slice none 0 0, .slice none 0 0] 58) = w0 at *
  refine wp_region_flow (base := w.heap.size + 2) (fun u => ⟨#[_, _, _, _, _, _, _, _, _, _, _, _, _, _, _, _, _, _, _, _, _, _, _, _, _, _, _, _, _, _, _, _, _, _, _, _, _, _, _, _, _, _, _, _, _, _, _, _, _, _, _, _, _, _, _, _, _, _, _, _, _, _, u 0, u 1, u 2, u 3, u 4, u 5, u 6, u 7, u 8, u 9, u 10, u 11, u 12, u 13, u 14, u 15, u 16, u 17, u 18, u 19, u 20, u 21, u 22], _⟩)
    [Is.eq _ (.pointer (some ⟨w.heap.size, 2, none⟩)),
   Is.eq _ (.slice Ai (n.kids).length ci),
   Is.eq _ (.int .i64 (fr : Nat)),
   Is.eq _ (.slice Ai (n.kids.take fr).length ci),
   Is.eq _ (.slice Ax (xs).length cx),
   Is.eq _ (.pointer (some ⟨w.heap.size, 2, none⟩)),
   Is.eq _ (.slice Ai (n.kids).length ci),
   Is.eq _ (.int .i64 (to_ : Nat)),
   Is.eq _ (.slice (if ci = to_ then Ai else Option.map (·.add (to_ * 1)) Ai) (n.kids.drop to_).length (ci - to_)),
   Is.blk _ 55 3 #[.slice Ai (n.kids.take fr).length ci, .slice Ax (xs).length cx, .slice (if ci = to_ then Ai else Option.map (·.add (to_ * 1)) Ai) (n.kids.drop to_).length (ci - to_)],
   Is.row _ intE 3 (n.kids.take fr ++ xs ++ n.kids.drop to_),
   Is.eq _ (.pointer (some ⟨w.heap.size, 3, none⟩)),
   Is.eq _ (.slice Ay (n.keys).length cy),
   Is.eq _ (.int .i64 (fr : Nat)),
   Is.eq _ (.slice Ay (n.keys.take fr).length cy),
   Is.eq _ (.slice Az (zs).length cz),
   Is.eq _ (.pointer (some ⟨w.heap.size, 3, none⟩)),
   Is.eq _ (.slice Ay (n.keys).length cy),
   Is.eq _ (.int .i64 (hi : Nat)),
   Is.eq _ (.slice (if cy = hi then Ay else Option.map (·.add (hi * 1)) Ay) (n.keys.drop hi).length (cy - hi)),
   Is.blk _ 56 3 #[.slice Ay (n.keys.take fr).length cy, .slice Az (zs).length cz, .slice (if cy = hi then Ay else Option.map (·.add (hi * 1)) Ay) (n.keys.drop hi).length (cy - hi)],
   Is.row _ keyE 9 (n.keys.take fr ++ zs ++ n.keys.drop hi),
   Is.node _ (Nd.mkInner (n.kids.take fr ++ xs ++ n.kids.drop to_) (n.keys.take fr ++ zs ++ n.keys.drop hi)),
   Is.put _ (w.heap.size + 1) (Nd.mkInner (n.kids.take fr ++ xs ++ n.kids.drop to_) (n.keys.take fr ++ zs ++ n.keys.drop hi))] (by kernel_rfl) (by kernel_rfl) (by kernel_rfl) [w.heap.size + 1] rfl (by omega) (by simp <;> omega) (by simp) ⟨fun i => (fun _ => undef) i, rfl⟩ ?_ ?_
  · intro i o ho u W hf hold hdep
    have hS : ∀ k, k ∈ [w.heap.size + 1] → k = w.heap.size + 1 := fun k hk => by simpa using hk
    have hsz : w.heap.size + 2 ≤ W.heap.size := by have := hf.size; omega
    have hbw : Below w.heap.size w W := hb0.trans (hf.low (by omega) (fun k a => by have := hS k a; omega))
    have hBn := hf.blk hB1 (fun a => by have := hS _ a; omega)
    have cn0 := hBn.cell 0
    have cn1 := hBn.cell 1
    have cn2 := hBn.cell 2
    have cn3 := hBn.cell 3
    match i, ho with
    | 0, ho =>
      have ho := Option.some.inj ho; subst ho
      exact Does.val (op_fan2 rfl rfl) ⟨rfl, rfl, Fr.refl _⟩
    | 1, ho =>
      have ho := Option.some.inj ho; subst ho
      exact Does.val (op_ld_ints rfl (hdep 0 rfl) cn2) ⟨rfl, rfl, Fr.refl _⟩
    | 2, ho =>
      have ho := Option.some.inj ho; subst ho
      exact Does.val (op_mv rfl rfl) ⟨rfl, rfl, Fr.refl _⟩
    | 3, ho =>
      have ho := Option.some.inj ho; subst ho
      exact Does.val (op_sl_ints_to rfl (hdep 1 rfl) (hdep 2 rfl) (by have := h2.le; omega)) ⟨rfl, by show _ = _; rw [hkt], Fr.refl _⟩
    | 4, ho =>
      have ho := Option.some.inj ho; subst ho
      exact Does.val (op_mv rfl rfl) ⟨rfl, rfl, Fr.refl _⟩
    | 5, ho =>
      have ho := Option.some.inj ho; subst ho
      exact Does.val (op_fan2 rfl rfl) ⟨rfl, rfl, Fr.refl _⟩
    | 6, ho =>
      have ho := Option.some.inj ho; subst ho
      exact Does.val (op_ld_ints rfl (hdep 5 rfl) cn2) ⟨rfl, rfl, Fr.refl _⟩
    | 7, ho =>
      have ho := Option.some.inj ho; subst ho
      exact Does.val (op_mv rfl rfl) ⟨rfl, rfl, Fr.refl _⟩
    | 8, ho =>
      have ho := Option.some.inj ho; subst ho
      exact Does.val (op_sl_ints_from rfl (hdep 6 rfl) (hdep 7 rfl) hto) ⟨rfl, by show _ = _; rw [List.length_drop], Fr.refl _⟩
    | 9, ho =>
      have ho := Option.some.inj ho; subst ho
      exact Does.val (op_bs_ints3 rfl (hdep 3 rfl) (hdep 4 rfl) (hdep 8 rfl)) ⟨rfl, ⟨W.heap.size, hsz, rfl, Blk.new _ _ _⟩, .of_below ((Below.refl _ _).alloc (Nat.le_refl _) _)⟩
    | 10, ho =>
      have ho := Option.some.inj ho; subst ho
      obtain ⟨bq, hq0, hq1, hq2⟩ := hdep 9 rfl
      have e1 : iconc [(Ai, ci, n.kids.take fr), (Ax, cx, xs), ((if ci = to_ then Ai else Option.map (·.add (to_ * 1)) Ai), (ci - to_), n.kids.drop to_)] = n.kids.take fr ++ xs ++ n.kids.drop to_ := by simp [iconc]
      refine Does.call (op_call ent_i rfl hq1) (Calls.mono (iglue_any bq 3 [(Ai, ci, n.kids.take fr), (Ax, cx, xs), ((if ci = to_ then Ai else Option.map (·.add (to_ * 1)) Ai), (ci - to_), n.kids.drop to_)] rfl (by decide) W hq2 (fun p hp => by
        simp only [List.mem_cons, List.not_mem_nil, or_false] at hp
        rcases hp with rfl | rfl | rfl
        all_goals first | exact ((h2.up hbw).ls).take_ _ | exact (hx.up hbw).ls | exact ((h2.up hbw).ls).cut (hto) h2.le) (by rw [e1]; first | omega | (simp; omega))) ?_)
      rintro e w' ⟨v, rfl, ho, hbl⟩
      rw [e1] at ho
      exact ⟨v, rfl, rfl, ⟨ho.lower hsz, ho.form⟩, .of_below hbl⟩
    | 11, ho =>
      have ho := Option.some.inj ho; subst ho
      exact Does.val (op_fan3 rfl rfl) ⟨rfl, rfl, Fr.refl _⟩
    | 12, ho =>
      have ho := Option.some.inj ho; subst ho
      exact Does.val (op_ld_keys rfl (hdep 11 rfl) cn3) ⟨rfl, rfl, Fr.refl _⟩
    | 13, ho =>
      have ho := Option.some.inj ho; subst ho
      exact Does.val (op_mv rfl rfl) ⟨rfl, rfl, Fr.refl _⟩
    | 14, ho =>
      have ho := Option.some.inj ho; subst ho
      exact Does.val (op_sl_keys_to rfl (hdep 12 rfl) (hdep 13 rfl) (by have := h3.le; omega)) ⟨rfl, by show _ = _; rw [hyt], Fr.refl _⟩
    | 15, ho =>
      have ho := Option.some.inj ho; subst ho
      exact Does.val (op_mv rfl rfl) ⟨rfl, rfl, Fr.refl _⟩
    | 16, ho =>
      have ho := Option.some.inj ho; subst ho
      exact Does.val (op_fan3 rfl rfl) ⟨rfl, rfl, Fr.refl _⟩
    | 17, ho =>
      have ho := Option.some.inj ho; subst ho
      exact Does.val (op_ld_keys rfl (hdep 16 rfl) cn3) ⟨rfl, rfl, Fr.refl _⟩
    | 18, ho =>
      have ho := Option.some.inj ho; subst ho
      exact Does.val (op_mv rfl rfl) ⟨rfl, rfl, Fr.refl _⟩
    | 19, ho =>
      have ho := Option.some.inj ho; subst ho
      exact Does.val (op_sl_keys_from rfl (hdep 17 rfl) (hdep 18 rfl) hhi) ⟨rfl, by show _ = _; rw [List.length_drop], Fr.refl _⟩
    | 20, ho =>
      have ho := Option.some.inj ho; subst ho
      exact Does.val (op_bs_keys3 rfl (hdep 14 rfl) (hdep 15 rfl) (hdep 19 rfl)) ⟨rfl, ⟨W.heap.size, hsz, rfl, Blk.new _ _ _⟩, .of_below ((Below.refl _ _).alloc (Nat.le_refl _) _)⟩
    | 21, ho =>
      have ho := Option.some.inj ho; subst ho
      obtain ⟨bq, hq0, hq1, hq2⟩ := hdep 20 rfl
      have e1 : kconc [(Ay, cy, n.keys.take fr), (Az, cz, zs), ((if cy = hi then Ay else Option.map (·.add (hi * 1)) Ay), (cy - hi), n.keys.drop hi)] = n.keys.take fr ++ zs ++ n.keys.drop hi := by simp [kconc]
      refine Does.call (op_call ent_k rfl hq1) (Calls.mono (kglue_any bq 3 [(Ay, cy, n.keys.take fr), (Az, cz, zs), ((if cy = hi then Ay else Option.map (·.add (hi * 1)) Ay), (cy - hi), n.keys.drop hi)] rfl (by decide) W hq2 (fun p hp => by
        simp only [List.mem_cons, List.not_mem_nil, or_false] at hp
        rcases hp with rfl | rfl | rfl
        all_goals first | exact ((h3.up hbw).ls).take_ _ | exact (hy.up hbw).ls | exact ((h3.up hbw).ls).cut (hhi) h3.le) (by rw [e1]; first | omega | (simp; omega))) ?_)
      rintro e w' ⟨v, rfl, ho, hbl⟩
      rw [e1] at ho
      exact ⟨v, rfl, rfl, ⟨ho.lower hsz, ho.form⟩, .of_below hbl⟩
    | 22, ho =>
      have ho := Option.some.inj ho; subst ho
      obtain ⟨r2, A2, k2, e2⟩ := hdep 10 rfl
      obtain ⟨r3, A3, k3, e3⟩ := hdep 21 rfl
      exact Does.val (op_bd_in rfl e2 e3) ⟨rfl, ⟨none, 0, A2, k2, A3, k3, rfl, LO.nil_ _ _, e2 ▸ r2, e3 ▸ r3⟩, Fr.refl _⟩
    | 23, ho =>
      have ho := Option.some.inj ho; subst ho
      obtain ⟨A1, k1, A2, k2, A3, k3, e, r⟩ := hdep 22 rfl
      refine does_store rfl rfl e ⟨_, _, _, _, _, _, _, _, _, _, rfl⟩ (Eq.trans (hold _ rfl) hB2) rfl fun w' hB hfr => ?_
      exact ⟨rfl, ⟨_, NF.fr ⟨A1, k1, A2, k2, A3, k3, rfl, r⟩ hfr (fun k a => by omega), hB⟩, hfr.more (fun k hk => by rw [hk]; rfl)⟩
    | n + 24, ho => exact absurd ho (by simp)
  · intro u W hf hall
    obtain ⟨cs, ⟨A1, k1, A2, k2, A3, k3, e, r⟩, hBk⟩ := hall 23 (by decide)
    have hS : ∀ k, k ∈ [w.heap.size + 1] → k = w.heap.size + 1 := fun k hk => by simpa using hk
    have hbw : Below w.heap.size w W := hb0.trans (hf.low (by omega) (fun k a => by have := hS k a; omega))
    injection e with e
    subst e
    have hend : NF w.heap.size W (.agg _) (Nd.mkInner (n.kids.take fr ++ xs ++ n.kids.drop to_) (n.keys.take fr ++ zs ++ n.keys.drop hi)) := NF.lower ⟨A1, k1, A2, k2, A3, k3, rfl, r⟩ (by omega)
    have HEND := Lib.hid hend
    clear hall hend hf
    go_wp2
    try simp only [Exit.inBlock, Exit.then]
    refine bodyPost_ret (res_cell node_struct rfl rfl hBk rfl) rfl ?_
    first | exact ⟨_, rfl, HEND.out, hbw⟩ | exact ⟨_, rfl, HND.out ▸ HEND.out, hbw⟩
set_option maxRecDepth 100000 in
set_option maxHeartbeats 2000000 in
theorem swap_none (v : Value) (n : Nd.Node) (Ax Az : Option Addr) (cx cz fr to_ : Nat) (xs : List Int) (zs : List ByteArray) (hlf : n.leaf = false) (hft : fr < to_) (hto : to_ ≤ n.kids.length) (hnk : n.keys.length + 1 = n.kids.length) (hk : zs = []) (hk2 : xs = []) (hf0 : 0 < fr) (lo hi : Nat) (hlo : lo = fr - 1) (hhie : hi = to_ - 1) (w : World) (h : NS w v n) (hb : NB n) (hx : SV intE w Ax cx xs) (hy : SV keyE w Az cz zs) (hxl : xs.length ≤ 100000) :
    Calls Tryz.prog 112 #[v, .int .i64 fr, .int .i64 to_, .slice Ax xs.length cx, .slice Az zs.length cz] w fun e w' => ∃ v', e = .returned v' ∧ NF w.heap.size w' v' (Nd.mkInner (n.kids.take fr ++ xs ++ n.kids.drop to_) (n.keys.take lo ++ zs ++ n.keys.drop hi)) ∧ Below w.heap.size w w' := by
  obtain ⟨Ae, ce, Ai, ci, Ay, cy, rfl, h1, h2, h3⟩ := h
  have hlo2 : lo ≤ n.keys.length := by omega
  have hhi : hi ≤ n.keys.length := by omega
  have hkt : (n.kids.take fr).length = fr := by rw [List.length_take]; omega
  have hyt : (n.keys.take lo).length = lo := by rw [List.length_take]; omega
  obtain ⟨ND, hND⟩ : ∃ x, x = (Nd.mkInner (n.kids.take fr ++ xs ++ n.kids.drop to_) (n.keys.take lo ++ zs ++ n.keys.drop hi)) := ⟨_, rfl⟩
  rw [← hND]
  have HND := Lib.hid hND
  clear hND
  unfold nodeV
  rw [hlf]
  have hB1 := (Blk.new w 58 #[.bool false, .slice Ae n.ents.length ce, .slice Ai n.kids.length ci, .slice Ay n.keys.length cy]).alloc (.cells #[.bool false, .slice none 0 0, .slice none 0 0, .slice none 0 0] 58)
  have hB2 := Blk.new (w.alloc (.cells #[.bool false, .slice Ae n.ents.length ce, .slice Ai n.kids.length ci, .slice Ay n.keys.length cy] 58)) 58 #[.bool false, .slice none 0 0, .slice none 0 0, .slice none 0 0]
  have hb1 := (Below.refl w.heap.size w).alloc (Nat.le_refl _) (.cells #[.bool false, .slice Ae n.ents.length ce, .slice Ai n.kids.length ci, .slice Ay n.keys.length cy] 58)
  have hb0 := hb1.alloc hb1.size (.cells #[.bool false, .slice none 0 0, .slice none 0 0, .slice none 0 0] 58)
  simp only [World.size_alloc] at hB2
  have be := hb.e
  have bi := hb.i
  have bk := hb.k
  clear hlf hb
  have q1 : decide ((fr : Int) < 0) = false := by rw [decide_eq_false_iff_not]; omega
  have q2 : ¬ n.kids.length < to_ := by omega
  have q3 : ¬ to_ ≤ fr := by omega
  have q4 : ((zs.length : Int) != max ((xs.length : Int) - 1) 0) = false := by rw [bne_eq_false_iff_eq, hk, hk2]; rfl
  have g1 : ((to_ : Int) - 1) = ((hi : Nat) : Int) := by omega
  have g2 : ((xs.length : Int) == 0) = true := by rw [hk2]; rfl
  have g3 : ((fr : Int) - 1) = ((lo : Nat) : Int) := by omega
  have g4 : 0 < (fr : Int) := by omega
  have q5 : zs.length ≤ 5 := by rw [hk]; exact Nat.zero_le _
  clear hhie hlo hk hk2
  go_enter Tryz.func112, Tryz.ntmps112
  go_wp2_with fail
  have hz : ((w.alloc (.cells #[.bool false, .slice Ae n.ents.length ce, .slice Ai n.kids.length ci, .slice Ay n.keys.length cy] 58)).alloc (.cells #[.bool false, .slice none 0 0, .slice none 0 0, .slice none 0 0] 58)).heap.size = w.heap.size + 2 := by simp
  generalize (w.alloc (.cells #[.bool false, .slice Ae n.ents.length ce, .slice Ai n.kids.length ci, .slice Ay n.keys.length cy] 58)).alloc (.cells #[.bool false, .slice none 0 0, .slice none 0 0, .slice none 0 0] 58) = w0 at *
  refine wp_region_flow (base := w.heap.size + 2) (fun u => ⟨#[_, _, _, _, _, _, _, _, _, _, _, _, _, _, _, _, _, _, _, _, _, _, _, _, _, _, _, _, _, _, _, _, _, _, _, _, _, _, _, _, _, _, _, _, _, _, _, _, _, _, _, _, _, _, _, _, _, _, _, _, _, _, u 0, u 1, u 2, u 3, u 4, u 5, u 6, u 7, u 8, u 9, u 10, u 11, u 12, u 13, u 14, u 15, u 16, u 17, u 18, u 19, u 20, u 21, u 22], _⟩)
    [Is.eq _ (.pointer (some ⟨w.heap.size, 2, none⟩)),
   Is.eq _ (.slice Ai (n.kids).length ci),
   Is.eq _ (.int .i64 (fr : Nat)),
   Is.eq _ (.slice Ai (n.kids.take fr).length ci),
   Is.eq _ (.slice Ax (xs).length cx),
   Is.eq _ (.pointer (some ⟨w.heap.size, 2, none⟩)),
   Is.eq _ (.slice Ai (n.kids).length ci),
   Is.eq _ (.int .i64 (to_ : Nat)),
   Is.eq _ (.slice (if ci = to_ then Ai else Option.map (·.add (to_ * 1)) Ai) (n.kids.drop to_).length (ci - to_)),
   Is.blk _ 55 3 #[.slice Ai (n.kids.take fr).length ci, .slice Ax (xs).length cx, .slice (if ci = to_ then Ai else Option.map (·.add (to_ * 1)) Ai) (n.kids.drop to_).length (ci - to_)],
   Is.row _ intE 3 (n.kids.take fr ++ xs ++ n.kids.drop to_),
   Is.eq _ (.pointer (some ⟨w.heap.size, 3, none⟩)),
   Is.eq _ (.slice Ay (n.keys).length cy),
   Is.eq _ (.int .i64 (lo : Nat)),
   Is.eq _ (.slice Ay (n.keys.take lo).length cy),
   Is.eq _ (.slice Az (zs).length cz),
   Is.eq _ (.pointer (some ⟨w.heap.size, 3, none⟩)),
   Is.eq _ (.slice Ay (n.keys).length cy),
   Is.eq _ (.int .i64 (hi : Nat)),
   Is.eq _ (.slice (if cy = hi then Ay else Option.map (·.add (hi * 1)) Ay) (n.keys.drop hi).length (cy - hi)),
   Is.blk _ 56 3 #[.slice Ay (n.keys.take lo).length cy, .slice Az (zs).length cz, .slice (if cy = hi then Ay else Option.map (·.add (hi * 1)) Ay) (n.keys.drop hi).length (cy - hi)],
   Is.row _ keyE 9 (n.keys.take lo ++ zs ++ n.keys.drop hi),
   Is.node _ (Nd.mkInner (n.kids.take fr ++ xs ++ n.kids.drop to_) (n.keys.take lo ++ zs ++ n.keys.drop hi)),
   Is.put _ (w.heap.size + 1) (Nd.mkInner (n.kids.take fr ++ xs ++ n.kids.drop to_) (n.keys.take lo ++ zs ++ n.keys.drop hi))] (by kernel_rfl) (by kernel_rfl) (by kernel_rfl) [w.heap.size + 1] rfl (by omega) (by simp <;> omega) (by simp) ⟨fun i => (fun _ => undef) i, rfl⟩ ?_ ?_
  · intro i o ho u W hf hold hdep
    have hS : ∀ k, k ∈ [w.heap.size + 1] → k = w.heap.size + 1 := fun k hk => by simpa using hk
    have hsz : w.heap.size + 2 ≤ W.heap.size := by have := hf.size; omega
    have hbw : Below w.heap.size w W := hb0.trans (hf.low (by omega) (fun k a => by have := hS k a; omega))
    have hBn := hf.blk hB1 (fun a => by have := hS _ a; omega)
    have cn0 := hBn.cell 0
    have cn1 := hBn.cell 1
    have cn2 := hBn.cell 2
    have cn3 := hBn.cell 3
    match i, ho with
    | 0, ho =>
      have ho := Option.some.inj ho; subst ho
      exact Does.val (op_fan2 rfl rfl) ⟨rfl, rfl, Fr.refl _⟩
    | 1, ho =>
      have ho := Option.some.inj ho; subst ho
      exact Does.val (op_ld_ints rfl (hdep 0 rfl) cn2) ⟨rfl, rfl, Fr.refl _⟩
    | 2, ho =>
      have ho := Option.some.inj ho; subst ho
      exact Does.val (op_mv rfl rfl) ⟨rfl, rfl, Fr.refl _⟩
    | 3, ho =>
      have ho := Option.some.inj ho; subst ho
      exact Does.val (op_sl_ints_to rfl (hdep 1 rfl) (hdep 2 rfl) (by have := h2.le; omega)) ⟨rfl, by show _ = _; rw [hkt], Fr.refl _⟩
    | 4, ho =>
      have ho := Option.some.inj ho; subst ho
      exact Does.val (op_mv rfl rfl) ⟨rfl, rfl, Fr.refl _⟩
    | 5, ho =>
      have ho := Option.some.inj ho; subst ho
      exact Does.val (op_fan2 rfl rfl) ⟨rfl, rfl, Fr.refl _⟩
    | 6, ho =>
      have ho := Option.some.inj ho; subst ho
      exact Does.val (op_ld_ints rfl (hdep 5 rfl) cn2) ⟨rfl, rfl, Fr.refl _⟩
    | 7, ho =>
      have ho := Option.some.inj ho; subst ho
      exact Does.val (op_mv rfl rfl) ⟨rfl, rfl, Fr.refl _⟩
    | 8, ho =>
      have ho := Option.some.inj ho; subst ho
      exact Does.val (op_sl_ints_from rfl (hdep 6 rfl) (hdep 7 rfl) hto) ⟨rfl, by show _ = _; rw [List.length_drop], Fr.refl _⟩
    | 9, ho =>
      have ho := Option.some.inj ho; subst ho
      exact Does.val (op_bs_ints3 rfl (hdep 3 rfl) (hdep 4 rfl) (hdep 8 rfl)) ⟨rfl, ⟨W.heap.size, hsz, rfl, Blk.new _ _ _⟩, .of_below ((Below.refl _ _).alloc (Nat.le_refl _) _)⟩
    | 10, ho =>
      have ho := Option.some.inj ho; subst ho
      obtain ⟨bq, hq0, hq1, hq2⟩ := hdep 9 rfl
      have e1 : iconc [(Ai, ci, n.kids.take fr), (Ax, cx, xs), ((if ci = to_ then Ai else Option.map (·.add (to_ * 1)) Ai), (ci - to_), n.kids.drop to_)] = n.kids.take fr ++ xs ++ n.kids.drop to_ := by simp [iconc]
      refine Does.call (op_call ent_i rfl hq1) (Calls.mono (iglue_any bq 3 [(Ai, ci, n.kids.take fr), (Ax, cx, xs), ((if ci = to_ then Ai else Option.map (·.add (to_ * 1)) Ai), (ci - to_), n.kids.drop to_)] rfl (by decide) W hq2 (fun p hp => by
        simp only [List.mem_cons, List.not_mem_nil, or_false] at hp
        rcases hp with rfl | rfl | rfl
        all_goals first | exact ((h2.up hbw).ls).take_ _ | exact (hx.up hbw).ls | exact ((h2.up hbw).ls).cut (hto) h2.le) (by rw [e1]; first | omega | (simp; omega))) ?_)
      rintro e w' ⟨v, rfl, ho, hbl⟩
      rw [e1] at ho
      exact ⟨v, rfl, rfl, ⟨ho.lower hsz, ho.form⟩, .of_below hbl⟩
    | 11, ho =>
      have ho := Option.some.inj ho; subst ho
      exact Does.val (op_fan3 rfl rfl) ⟨rfl, rfl, Fr.refl _⟩
    | 12, ho =>
      have ho := Option.some.inj ho; subst ho
      exact Does.val (op_ld_keys rfl (hdep 11 rfl) cn3) ⟨rfl, rfl, Fr.refl _⟩
    | 13, ho =>
      have ho := Option.some.inj ho; subst ho
      exact Does.val (op_mv rfl rfl) ⟨rfl, rfl, Fr.refl _⟩
    | 14, ho =>
      have ho := Option.some.inj ho; subst ho
      exact Does.val (op_sl_keys_to rfl (hdep 12 rfl) (hdep 13 rfl) (by have := h3.le; omega)) ⟨rfl, by show _ = _; rw [hyt], Fr.refl _⟩
    | 15, ho =>
      have ho := Option.some.inj ho; subst ho
      exact Does.val (op_mv rfl rfl) ⟨rfl, rfl, Fr.refl _⟩
    | 16, ho =>
      have ho := Option.some.inj ho; subst ho
      exact Does.val (op_fan3 rfl rfl) ⟨rfl, rfl, Fr.refl _⟩
    | 17, ho =>
      have ho := Option.some.inj ho; subst ho
      exact Does.val (op_ld_keys rfl (hdep 16 rfl) cn3) ⟨rfl, rfl, Fr.refl _⟩
    | 18, ho =>
      have ho := Option.some.inj ho; subst ho
      exact Does.val (op_mv rfl rfl) ⟨rfl, rfl, Fr.refl _⟩
    | 19, ho =>
      have ho := Option.some.inj ho; subst ho
      exact Does.val (op_sl_keys_from rfl (hdep 17 rfl) (hdep 18 rfl) hhi) ⟨rfl, by show _ = _; rw [List.length_drop], Fr.refl _⟩
    | 20, ho =>
      have ho := Option.some.inj ho; subst ho
      exact Does.val (op_bs_keys3 rfl (hdep 14 rfl) (hdep 15 rfl) (hdep 19 rfl)) ⟨rfl, ⟨W.heap.size, hsz, rfl, Blk.new _ _ _⟩, .of_below ((Below.refl _ _).alloc (Nat.le_refl _) _)⟩
    | 21, ho =>
      have ho := Option.some.inj ho; subst ho
      obtain ⟨bq, hq0, hq1, hq2⟩ := hdep 20 rfl
      have e1 : kconc [(Ay, cy, n.keys.take lo), (Az, cz, zs), ((if cy = hi then Ay else Option.map (·.add (hi * 1)) Ay), (cy - hi), n.keys.drop hi)] = n.keys.take lo ++ zs ++ n.keys.drop hi := by simp [kconc]
      refine Does.call (op_call ent_k rfl hq1) (Calls.mono (kglue_any bq 3 [(Ay, cy, n.keys.take lo), (Az, cz, zs), ((if cy = hi then Ay else Option.map (·.add (hi * 1)) Ay), (cy - hi), n.keys.drop hi)] rfl (by decide) W hq2 (fun p hp => by
        simp only [List.mem_cons, List.not_mem_nil, or_false] at hp
        rcases hp with rfl | rfl | rfl
        all_goals first | exact ((h3.up hbw).ls).take_ _ | exact (hy.up hbw).ls | exact ((h3.up hbw).ls).cut (hhi) h3.le) (by rw [e1]; first | omega | (simp; omega))) ?_)
      rintro e w' ⟨v, rfl, ho, hbl⟩
      rw [e1] at ho
      exact ⟨v, rfl, rfl, ⟨ho.lower hsz, ho.form⟩, .of_below hbl⟩
    | 22, ho =>
      have ho := Option.some.inj ho; subst ho
      obtain ⟨r2, A2, k2, e2⟩ := hdep 10 rfl
      obtain ⟨r3, A3, k3, e3⟩ := hdep 21 rfl
      exact Does.val (op_bd_in rfl e2 e3) ⟨rfl, ⟨none, 0, A2, k2, A3, k3, rfl, LO.nil_ _ _, e2 ▸ r2, e3 ▸ r3⟩, Fr.refl _⟩
    | 23, ho =>
      have ho := Option.some.inj ho; subst ho
      obtain ⟨A1, k1, A2, k2, A3, k3, e, r⟩ := hdep 22 rfl
      refine does_store rfl rfl e ⟨_, _, _, _, _, _, _, _, _, _, rfl⟩ (Eq.trans (hold _ rfl) hB2) rfl fun w' hB hfr => ?_
      exact ⟨rfl, ⟨_, NF.fr ⟨A1, k1, A2, k2, A3, k3, rfl, r⟩ hfr (fun k a => by omega), hB⟩, hfr.more (fun k hk => by rw [hk]; rfl)⟩
    | n + 24, ho => exact absurd ho (by simp)
  · intro u W hf hall
    obtain ⟨cs, ⟨A1, k1, A2, k2, A3, k3, e, r⟩, hBk⟩ := hall 23 (by decide)
    have hS : ∀ k, k ∈ [w.heap.size + 1] → k = w.heap.size + 1 := fun k hk => by simpa using hk
    have hbw : Below w.heap.size w W := hb0.trans (hf.low (by omega) (fun k a => by have := hS k a; omega))
    injection e with e
    subst e
    have hend : NF w.heap.size W (.agg _) (Nd.mkInner (n.kids.take fr ++ xs ++ n.kids.drop to_) (n.keys.take lo ++ zs ++ n.keys.drop hi)) := NF.lower ⟨A1, k1, A2, k2, A3, k3, rfl, r⟩ (by omega)
    have HEND := Lib.hid hend
    clear hall hend hf
    go_wp2
    try simp only [Exit.inBlock, Exit.then]
    refine bodyPost_ret (res_cell node_struct rfl rfl hBk rfl) rfl ?_
    first | exact ⟨_, rfl, HEND.out, hbw⟩ | exact ⟨_, rfl, HND.out ▸ HEND.out, hbw⟩
set_option maxRecDepth 100000 in
set_option maxHeartbeats 2000000 in
theorem swap_low (v : Value) (n : Nd.Node) (Ax Az : Option Addr) (cx cz fr to_ : Nat) (xs : List Int) (zs : List ByteArray) (hlf : n.leaf = false) (hft : fr < to_) (hto : to_ ≤ n.kids.length) (hnk : n.keys.length + 1 = n.kids.length) (hk : zs = []) (hk2 : xs = []) (hf0 : fr = 0) (lo hi : Nat) (hlo : lo = fr) (hhie : hi = min to_ n.keys.length) (w : World) (h : NS w v n) (hb : NB n) (hx : SV intE w Ax cx xs) (hy : SV keyE w Az cz zs) (hxl : xs.length ≤ 100000) :
    Calls Tryz.prog 112 #[v, .int .i64 fr, .int .i64 to_, .slice Ax xs.length cx, .slice Az zs.length cz] w fun e w' => ∃ v', e = .returned v' ∧ NF w.heap.size w' v' (Nd.mkInner (n.kids.take fr ++ xs ++ n.kids.drop to_) (n.keys.take lo ++ zs ++ n.keys.drop hi)) ∧ Below w.heap.size w w' := by
  obtain ⟨Ae, ce, Ai, ci, Ay, cy, rfl, h1, h2, h3⟩ := h
  have hlo2 : lo ≤ n.keys.length := by omega
  have hhi : hi ≤ n.keys.length := by omega
  have hkt : (n.kids.take fr).length = fr := by rw [List.length_take]; omega
  have hyt : (n.keys.take lo).length = lo := by rw [List.length_take]; omega
  obtain ⟨ND, hND⟩ : ∃ x, x = (Nd.mkInner (n.kids.take fr ++ xs ++ n.kids.drop to_) (n.keys.take lo ++ zs ++ n.keys.drop hi)) := ⟨_, rfl⟩
  rw [← hND]
  have HND := Lib.hid hND
  clear hND
  unfold nodeV
  rw [hlf]
  have hB1 := (Blk.new w 58 #[.bool false, .slice Ae n.ents.length ce, .slice Ai n.kids.length ci, .slice Ay n.keys.length cy]).alloc (.cells #[.bool false, .slice none 0 0, .slice none 0 0, .slice none 0 0] 58)
  have hB2 := Blk.new (w.alloc (.cells #[.bool false, .slice Ae n.ents.length ce, .slice Ai n.kids.length ci, .slice Ay n.keys.length cy] 58)) 58 #[.bool false, .slice none 0 0, .slice none 0 0, .slice none 0 0]
  have hb1 := (Below.refl w.heap.size w).alloc (Nat.le_refl _) (.cells #[.bool false, .slice Ae n.ents.length ce, .slice Ai n.kids.length ci, .slice Ay n.keys.length cy] 58)
  have hb0 := hb1.alloc hb1.size (.cells #[.bool false, .slice none 0 0, .slice none 0 0, .slice none 0 0] 58)
  simp only [World.size_alloc] at hB2
  have be := hb.e
  have bi := hb.i
  have bk := hb.k
  clear hlf hb
  have q1 : decide ((fr : Int) < 0) = false := by rw [decide_eq_false_iff_not]; omega
  have q2 : ¬ n.kids.length < to_ := by omega
  have q3 : ¬ to_ ≤ fr := by omega
  have q4 : ((zs.length : Int) != max ((xs.length : Int) - 1) 0) = false := by rw [bne_eq_false_iff_eq, hk, hk2]; rfl
  have g1 : min (to_ : Int) (n.keys.length : Int) = ((hi : Nat) : Int) := by omega
  have g2 : ((xs.length : Int) == 0) = true := by rw [hk2]; rfl
  have g4 : ¬ 0 < (fr : Int) := by omega
  have q5 : zs.length ≤ 5 := by rw [hk]; exact Nat.zero_le _
  subst lo
  clear hhie hk hk2 hf0
  go_enter Tryz.func112, Tryz.ntmps112
  go_wp2_with fail
  have hz : ((w.alloc (.cells #[.bool false, .slice Ae n.ents.length ce, .slice Ai n.kids.length ci, .slice Ay n.keys.length cy] 58)).alloc (.cells #[.bool false, .slice none 0 0, .slice none 0 0, .slice none 0 0] 58)).heap.size = w.heap.size + 2 := by simp
  generalize (w.alloc (.cells #[.bool false, .slice Ae n.ents.length ce, .slice Ai n.kids.length ci, .slice Ay n.keys.length cy] 58)).alloc (.cells #[.bool false, .slice none 0 0, .slice none 0 0, .slice none 0 0] 58) = w0 at *
  refine wp_region_flow (base := w.heap.size + 2) (fun u => ⟨#[_, _, _, _, _, _, _, _, _, _, _, _, _, _, _, _, _, _, _, _, _, _, _, _, _, _, _, _, _, _, _, _, _, _, _, _, _, _, _, _, _, _, _, _, _, _, _, _, _, _, _, _, _, _, _, _, _, _, _, _, _, _, u 0, u 1, u 2, u 3, u 4, u 5, u 6, u 7, u 8, u 9, u 10, u 11, u 12, u 13, u 14, u 15, u 16, u 17, u 18, u 19, u 20, u 21, u 22], _⟩)
    [Is.eq _ (.pointer (some ⟨w.heap.size, 2, none⟩)),
   Is.eq _ (.slice Ai (n.kids).length ci),
   Is.eq _ (.int .i64 (fr : Nat)),
   Is.eq _ (.slice Ai (n.kids.take fr).length ci),
   Is.eq _ (.slice Ax (xs).length cx),
   Is.eq _ (.pointer (some ⟨w.heap.size, 2, none⟩)),
   Is.eq _ (.slice Ai (n.kids).length ci),
   Is.eq _ (.int .i64 (to_ : Nat)),
   Is.eq _ (.slice (if ci = to_ then Ai else Option.map (·.add (to_ * 1)) Ai) (n.kids.drop to_).length (ci - to_)),
   Is.blk _ 55 3 #[.slice Ai (n.kids.take fr).length ci, .slice Ax (xs).length cx, .slice (if ci = to_ then Ai else Option.map (·.add (to_ * 1)) Ai) (n.kids.drop to_).length (ci - to_)],
   Is.row _ intE 3 (n.kids.take fr ++ xs ++ n.kids.drop to_),
   Is.eq _ (.pointer (some ⟨w.heap.size, 3, none⟩)),
   Is.eq _ (.slice Ay (n.keys).length cy),
   Is.eq _ (.int .i64 (fr : Nat)),
   Is.eq _ (.slice Ay (n.keys.take fr).length cy),
   Is.eq _ (.slice Az (zs).length cz),
   Is.eq _ (.pointer (some ⟨w.heap.size, 3, none⟩)),
   Is.eq _ (.slice Ay (n.keys).length cy),
   Is.eq _ (.int .i64 (hi : Nat)),
   Is.eq _ (.slice (if cy = hi then Ay else Option.map (·.add (hi * 1)) Ay) (n.keys.drop hi).length (cy - hi)),
   Is.blk _ 56 3 #[.slice Ay (n.keys.take fr).length cy, .slice Az (zs).length cz, .slice (if cy = hi then Ay else Option.map (·.add (hi * 1)) Ay) (n.keys.drop hi).length (cy - hi)],
   Is.row _ keyE 9 (n.keys.take fr ++ zs ++ n.keys.drop hi),
   Is.node _ (Nd.mkInner (n.kids.take fr ++ xs ++ n.kids.drop to_) (n.keys.take fr ++ zs ++ n.keys.drop hi)),
   Is.put _ (w.heap.size + 1) (Nd.mkInner (n.kids.take fr ++ xs ++ n.kids.drop to_) (n.keys.take fr ++ zs ++ n.keys.drop hi))] (by kernel_rfl) (by kernel_rfl) (by kernel_rfl) [w.heap.size + 1] rfl (by omega) (by simp <;> omega) (by simp) ⟨fun i => (fun _ => undef) i, rfl⟩ ?_ ?_
  · intro i o ho u W hf hold hdep
    have hS : ∀ k, k ∈ [w.heap.size + 1] → k = w.heap.size + 1 := fun k hk => by simpa using hk
    have hsz : w.heap.size + 2 ≤ W.heap.size := by have := hf.size; omega
    have hbw : Below w.heap.size w W := hb0.trans (hf.low (by omega) (fun k a => by have := hS k a; omega))
    have hBn := hf.blk hB1 (fun a => by have := hS _ a; omega)
    have cn0 := hBn.cell 0
    have cn1 := hBn.cell 1
    have cn2 := hBn.cell 2
    have cn3 := hBn.cell 3
    match i, ho with
    | 0, ho =>
      have ho := Option.some.inj ho; subst ho
      exact Does.val (op_fan2 rfl rfl) ⟨rfl, rfl, Fr.refl _⟩
    | 1, ho =>
      have ho := Option.some.inj ho; subst ho
      exact Does.val (op_ld_ints rfl (hdep 0 rfl) cn2) ⟨rfl, rfl, Fr.refl _⟩
    | 2, ho =>
      have ho := Option.some.inj ho; subst ho
      exact Does.val (op_mv rfl rfl) ⟨rfl, rfl, Fr.refl _⟩
    | 3, ho =>
      have ho := Option.some.inj ho; subst ho
      exact Does.val (op_sl_ints_to rfl (hdep 1 rfl) (hdep 2 rfl) (by have := h2.le; omega)) ⟨rfl, by show _ = _; rw [hkt], Fr.refl _⟩
    | 4, ho =>
      have ho := Option.some.inj ho; subst ho
      exact Does.val (op_mv rfl rfl) ⟨rfl, rfl, Fr.refl _⟩
    | 5, ho =>
      have ho := Option.some.inj ho; subst ho
      exact Does.val (op_fan2 rfl rfl) ⟨rfl, rfl, Fr.refl _⟩
    | 6, ho =>
      have ho := Option.some.inj ho; subst ho
      exact Does.val (op_ld_ints rfl (hdep 5 rfl) cn2) ⟨rfl, rfl, Fr.refl _⟩
    | 7, ho =>
      have ho := Option.some.inj ho; subst ho
      exact Does.val (op_mv rfl rfl) ⟨rfl, rfl, Fr.refl _⟩
    | 8, ho =>
      have ho := Option.some.inj ho; subst ho
      exact Does.val (op_sl_ints_from rfl (hdep 6 rfl) (hdep 7 rfl) hto) ⟨rfl, by show _ = _; rw [List.length_drop], Fr.refl _⟩
    | 9, ho =>
      have ho := Option.some.inj ho; subst ho
      exact Does.val (op_bs_ints3 rfl (hdep 3 rfl) (hdep 4 rfl) (hdep 8 rfl)) ⟨rfl, ⟨W.heap.size, hsz, rfl, Blk.new _ _ _⟩, .of_below ((Below.refl _ _).alloc (Nat.le_refl _) _)⟩
    | 10, ho =>
      have ho := Option.some.inj ho; subst ho
      obtain ⟨bq, hq0, hq1, hq2⟩ := hdep 9 rfl
      have e1 : iconc [(Ai, ci, n.kids.take fr), (Ax, cx, xs), ((if ci = to_ then Ai else Option.map (·.add (to_ * 1)) Ai), (ci - to_), n.kids.drop to_)] = n.kids.take fr ++ xs ++ n.kids.drop to_ := by simp [iconc]
      refine Does.call (op_call ent_i rfl hq1) (Calls.mono (iglue_any bq 3 [(Ai, ci, n.kids.take fr), (Ax, cx, xs), ((if ci = to_ then Ai else Option.map (·.add (to_ * 1)) Ai), (ci - to_), n.kids.drop to_)] rfl (by decide) W hq2 (fun p hp => by
        simp only [List.mem_cons, List.not_mem_nil, or_false] at hp
        rcases hp with rfl | rfl | rfl
        all_goals first | exact ((h2.up hbw).ls).take_ _ | exact (hx.up hbw).ls | exact ((h2.up hbw).ls).cut (hto) h2.le) (by rw [e1]; first | omega | (simp; omega))) ?_)
      rintro e w' ⟨v, rfl, ho, hbl⟩
      rw [e1] at ho
      exact ⟨v, rfl, rfl, ⟨ho.lower hsz, ho.form⟩, .of_below hbl⟩
    | 11, ho =>
      have ho := Option.some.inj ho; subst ho
      exact Does.val (op_fan3 rfl rfl) ⟨rfl, rfl, Fr.refl _⟩
    | 12, ho =>
      have ho := Option.some.inj ho; subst ho
      exact Does.val (op_ld_keys rfl (hdep 11 rfl) cn3) ⟨rfl, rfl, Fr.refl _⟩
    | 13, ho =>
      have ho := Option.some.inj ho; subst ho
      exact Does.val (op_mv rfl rfl) ⟨rfl, rfl, Fr.refl _⟩
    | 14, ho =>
      have ho := Option.some.inj ho; subst ho
      exact Does.val (op_sl_keys_to rfl (hdep 12 rfl) (hdep 13 rfl) (by have := h3.le; omega)) ⟨rfl, by show _ = _; rw [hyt], Fr.refl _⟩
    | 15, ho =>
      have ho := Option.some.inj ho; subst ho
      exact Does.val (op_mv rfl rfl) ⟨rfl, rfl, Fr.refl _⟩
    | 16, ho =>
      have ho := Option.some.inj ho; subst ho
      exact Does.val (op_fan3 rfl rfl) ⟨rfl, rfl, Fr.refl _⟩
    | 17, ho =>
      have ho := Option.some.inj ho; subst ho
      exact Does.val (op_ld_keys rfl (hdep 16 rfl) cn3) ⟨rfl, rfl, Fr.refl _⟩
    | 18, ho =>
      have ho := Option.some.inj ho; subst ho
      exact Does.val (op_mv rfl rfl) ⟨rfl, rfl, Fr.refl _⟩
    | 19, ho =>
      have ho := Option.some.inj ho; subst ho
      exact Does.val (op_sl_keys_from rfl (hdep 17 rfl) (hdep 18 rfl) hhi) ⟨rfl, by show _ = _; rw [List.length_drop], Fr.refl _⟩
    | 20, ho =>
      have ho := Option.some.inj ho; subst ho
      exact Does.val (op_bs_keys3 rfl (hdep 14 rfl) (hdep 15 rfl) (hdep 19 rfl)) ⟨rfl, ⟨W.heap.size, hsz, rfl, Blk.new _ _ _⟩, .of_below ((Below.refl _ _).alloc (Nat.le_refl _) _)⟩
    | 21, ho =>
      have ho := Option.some.inj ho; subst ho
      obtain ⟨bq, hq0, hq1, hq2⟩ := hdep 20 rfl
      have e1 : kconc [(Ay, cy, n.keys.take fr), (Az, cz, zs), ((if cy = hi then Ay else Option.map (·.add (hi * 1)) Ay), (cy - hi), n.keys.drop hi)] = n.keys.take fr ++ zs ++ n.keys.drop hi := by simp [kconc]
      refine Does.call (op_call ent_k rfl hq1) (Calls.mono (kglue_any bq 3 [(Ay, cy, n.keys.take fr), (Az, cz, zs), ((if cy = hi then Ay else Option.map (·.add (hi * 1)) Ay), (cy - hi), n.keys.drop hi)] rfl (by decide) W hq2 (fun p hp => by
        simp only [List.mem_cons, List.not_mem_nil, or_false] at hp
        rcases hp with rfl | rfl | rfl
        all_goals first | exact ((h3.up hbw).ls).take_ _ | exact (hy.up hbw).ls | exact ((h3.up hbw).ls).cut (hhi) h3.le) (by rw [e1]; first | omega | (simp; omega))) ?_)
      rintro e w' ⟨v, rfl, ho, hbl⟩
      rw [e1] at ho
      exact ⟨v, rfl, rfl, ⟨ho.lower hsz, ho.form⟩, .of_below hbl⟩
    | 22, ho =>
      have ho := Option.some.inj ho; subst ho
      obtain ⟨r2, A2, k2, e2⟩ := hdep 10 rfl
      obtain ⟨r3, A3, k3, e3⟩ := hdep 21 rfl
      exact Does.val (op_bd_in rfl e2 e3) ⟨rfl, ⟨none, 0, A2, k2, A3, k3, rfl, LO.nil_ _ _, e2 ▸ r2, e3 ▸ r3⟩, Fr.refl _⟩
    | 23, ho =>
      have ho := Option.some.inj ho; subst ho
      obtain ⟨A1, k1, A2, k2, A3, k3, e, r⟩ := hdep 22 rfl
      refine does_store rfl rfl e ⟨_, _, _, _, _, _, _, _, _, _, rfl⟩ (Eq.trans (hold _ rfl) hB2) rfl fun w' hB hfr => ?_
      exact ⟨rfl, ⟨_, NF.fr ⟨A1, k1, A2, k2, A3, k3, rfl, r⟩ hfr (fun k a => by omega), hB⟩, hfr.more (fun k hk => by rw [hk]; rfl)⟩
    | n + 24, ho => exact absurd ho (by simp)
  · intro u W hf hall
    obtain ⟨cs, ⟨A1, k1, A2, k2, A3, k3, e, r⟩, hBk⟩ := hall 23 (by decide)
    have hS : ∀ k, k ∈ [w.heap.size + 1] → k = w.heap.size + 1 := fun k hk => by simpa using hk
    have hbw : Below w.heap.size w W := hb0.trans (hf.low (by omega) (fun k a => by have := hS k a; omega))
    injection e with e
    subst e
    have hend : NF w.heap.size W (.agg _) (Nd.mkInner (n.kids.take fr ++ xs ++ n.kids.drop to_) (n.keys.take fr ++ zs ++ n.keys.drop hi)) := NF.lower ⟨A1, k1, A2, k2, A3, k3, rfl, r⟩ (by omega)
    have HEND := Lib.hid hend
    clear hall hend hf
    go_wp2
    try simp only [Exit.inBlock, Exit.then]
    refine bodyPost_ret (res_cell node_struct rfl rfl hBk rfl) rfl ?_
    first | exact ⟨_, rfl, HEND.out, hbw⟩ | exact ⟨_, rfl, HND.out ▸ HEND.out, hbw⟩
end Go.Proofs.YtpfplojkiloldaaGreatDoor
namespace Tp
open Nd
abbrev Disk := Int → Option Node
def Use (used : List Run) (σ : Pst) (x : Int) : Prop := x ∈ σ.mine ∨ Rp.Mem used x
abbrev ApS (room : Int) (used : List Run) (σ : Pst) : Prop := Rp.Ap room σ.free used σ.mine σ.pages
structure Step (room : Int) (disk : Disk) (used : List Run) (σ : Pst) (A : Int → Prop) (σ' : Pst) (A' : Int → Prop) : Prop where
  ap : ApS room used σ'
  mem : ∀ x, x ∈ σ'.mine ↔ (x ∈ σ.mine ∧ ¬ A x) ∨ (A' x ∧ ¬ Rp.Mem used x)
  keep : ∀ x, ¬ A x → Use used σ x → σ'.view disk x = σ.view disk x
  new : ∀ x, A' x → A x ∨ ¬ Use used σ x
section
variable {room : Int} {disk : Disk} {used : List Run} {σ σ1 σ2 : Pst} {A A1 B B1 : Int → Prop}
theorem Step.refl_ (h : ApS room used σ) : Step room disk used σ (fun _ => False) σ (fun _ => False) :=
  ⟨h, fun x => by simp, fun _ _ _ => rfl, fun x hx => hx.elim⟩
theorem Step.use (h : Step room disk used σ A σ1 A1) {x : Int} (hu : Use used σ x) (hA : ¬ A x) : Use used σ1 x := by
  rcases hu with hu | hu
  · exact .inl ((h.mem x).2 (.inl ⟨hu, hA⟩))
  · exact .inr hu
theorem Step.got (h : Step room disk used σ A σ1 A1) {x : Int} (hA : A1 x) : Use used σ1 x := by
  by_cases hu : Rp.Mem used x
  · exact .inr hu
  · exact .inl ((h.mem x).2 (.inr ⟨hA, hu⟩))
theorem Step.was (h : Step room disk used σ A σ1 A1) {x : Int} (hu : Use used σ1 x) : Use used σ x ∨ A1 x := by
  rcases hu with hu | hu
  · rcases (h.mem x).1 hu with ⟨h1, _⟩ | ⟨h1, _⟩
    · exact .inl (.inl h1)
    · exact .inr h1
  · exact .inl (.inr hu)
theorem Step.comp (h1 : Step room disk used σ A σ1 A1) (h2 : Step room disk used σ1 B σ2 B1) : Step room disk used σ (fun x => A x ∨ (B x ∧ ¬ A1 x)) σ2 (fun x => (A1 x ∧ ¬ B x) ∨ B1 x) := by
  have hnew : ∀ x, x ∈ σ.mine → ¬ A x → ¬ A1 x := fun x hm hA hA1 => by
    rcases h1.new x hA1 with h | h
    · exact hA h
    · exact h (.inl hm)
  refine ⟨h2.ap, fun x => ?_, fun x hx hu => ?_, fun x hx => ?_⟩
  · rw [h2.mem, h1.mem]
    have hn := hnew x
    by_cases a : A x <;> by_cases a1 : A1 x <;> by_cases b : B x <;> by_cases b1 : B1 x <;> by_cases m : x ∈ σ.mine <;> by_cases u : Rp.Mem used x <;> simp_all
  · have hA : ¬ A x := fun h => hx (.inl h)
    have hA1 : ¬ A1 x := fun h => by
      rcases h1.new x h with h | h
      · exact hA h
      · exact h hu
    have hB : ¬ B x := fun h => hx (.inr ⟨h, hA1⟩)
    rw [h2.keep x hB (h1.use hu hA), h1.keep x hA hu]
  · rcases hx with ⟨ha, hb⟩ | hb
    · rcases h1.new x ha with h | h
      · exact .inl (.inl h)
      · exact .inr h
    · rcases h2.new x hb with h | h
      · by_cases ha : A1 x
        · rcases h1.new x ha with h | h
          · exact .inl (.inl h)
          · exact .inr h
        · exact .inl (.inr ⟨h, ha⟩)
      · by_cases ha : A x
        · exact .inl (.inl ha)
        · exact .inr fun hu => h (h1.use hu ha)
theorem Step.congr {A' A1' : Int → Prop} (h : Step room disk used σ A σ1 A1) (h1 : ∀ x, A x ↔ A' x) (h2 : ∀ x, A1 x ↔ A1' x) : Step room disk used σ A' σ1 A1' :=
  ⟨h.ap, fun x => by rw [h.mem, h1, h2], fun x hx => h.keep x (fun hh => hx ((h1 x).1 hh)), fun x hx => (h.new x ((h2 x).2 hx)).imp_left (h1 x).1⟩
theorem view_mine {x : Int} (h : x ∈ σ.mine) : σ.view disk x = σ.nd x := if_pos h
theorem view_used (h : ApS room used σ) {x : Int} (hx : Rp.Mem used x) : σ.view disk x = disk x := by
  unfold Pst.view
  have hr := h.hu x hx
  have hf : Rp.has σ.free x = false := Rp.has_used fun hf => h.fu x hf hx
  rw [if_neg (h.um x hx), if_pos ⟨hr.1, hr.2, hf⟩]
theorem use_range (h : ApS room used σ) {x : Int} (hu : Use used σ x) : 2 ≤ x ∧ x < room := by
  have hp := h.pg
  rcases hu with hu | hu
  · have := h.hm x hu; omega
  · have := h.hu x hu; omega
def spare (room : Int) (used : List Run) : Int := room - 2 - ((Rp.nums used).length : Int)
theorem alloc_none (h : ApS room used σ) (ha : pAlloc room σ = none) : spare room used ≤ (σ.mine.length : Int) := by
  unfold pAlloc at ha
  have ha2 : allocV σ.free σ.pages room = none := by
    cases hv : allocV σ.free σ.pages room with
    | none => rfl
    | some p => rw [hv] at ha; cases ha
  unfold allocV at ha2
  cases hf : Rp.least σ.free with
  | some id => rw [hf] at ha2; cases ha2
  | none =>
    rw [hf] at ha2
    simp only at ha2
    have hp : room ≤ σ.pages := by
      by_cases hp : room ≤ σ.pages
      · exact hp
      · rw [if_neg hp] at ha2; cases ha2
    have hpg := h.pg
    have hno := Rp.least_none h.cf hf
    have hsub : (List.range (room - 2).toNat).map (fun i : Nat => 2 + (i : Int)) ⊆ σ.mine ++ Rp.nums used := fun x hx => by
      obtain ⟨i, hi, rfl⟩ := List.mem_map.1 hx
      rw [List.mem_range] at hi
      rw [List.mem_append, Rp.mem_nums]
      rcases h.all (2 + (i : Int)) (by omega) (by omega) with h1 | h1 | h1
      · exact absurd h1 (hno _)
      · exact .inr h1
      · exact .inl h1
    have hl := List.Nodup.length_le_of_subset (Rp.range_nodup 2 _) hsub
    rw [List.length_append] at hl
    unfold spare
    simp only [List.length_map, List.length_range] at hl
    omega
theorem alloc_some (h : ApS room used σ) {id : Int} (ha : pAlloc room σ = some (id, σ1)) :
    Step room disk used σ (fun _ => False) σ1 (fun x => x = id) ∧ σ1.mine = σ.mine ++ [id] ∧ ¬ Use used σ id := by
  unfold pAlloc at ha
  cases hv : allocV σ.free σ.pages room with
  | none => rw [hv] at ha; cases ha
  | some p =>
    obtain ⟨id', fr, p'⟩ := p
    rw [hv] at ha
    simp only [Option.some.injEq, Prod.mk.injEq] at ha
    obtain ⟨rfl, rfl⟩ := ha
    have key : id' ∉ σ.mine ∧ Rp.has used id' = false ∧ Rp.Ap room fr used (σ.mine ++ [id']) p' := by
      unfold allocV at hv
      cases hf : Rp.least σ.free with
      | some id =>
        rw [hf] at hv
        simp only [Option.some.injEq, Prod.mk.injEq] at hv
        obtain ⟨rfl, rfl, rfl⟩ := hv
        obtain ⟨h1, h2, _, _, h5⟩ := h.free (id := id) hf
        exact ⟨h1, h2, h5⟩
      | none =>
        rw [hf] at hv
        simp only at hv
        by_cases hp : room ≤ σ.pages
        · rw [if_pos hp] at hv; cases hv
        · rw [if_neg hp] at hv
          simp only [Option.some.injEq, Prod.mk.injEq] at hv
          obtain ⟨rfl, rfl, rfl⟩ := hv
          exact h.fresh (by omega)
    obtain ⟨k1, k2, k3⟩ := key
    have hnu : ¬ Rp.Mem used id' := fun hu => by
      have hr := h.hu id' hu
      have hpg := h.pg
      have : Rp.has used id' = true := (Rp.has_iff _ _).2 ⟨by omega, by unfold Rp.Most; omega, hu⟩
      rw [k2] at this; cases this
    refine ⟨⟨k3, fun x => ?_, fun x _ hu => ?_, fun x hx => ?_⟩, rfl, ?_⟩
    · simp only [List.mem_append, List.mem_singleton, not_false_eq_true, and_true]
      constructor
      · rintro (hx | rfl)
        · exact .inl hx
        · exact .inr ⟨rfl, hnu⟩
      · rintro (hx | ⟨hx, _⟩)
        · exact .inl hx
        · exact .inr hx
    · rcases hu with hu | hu
      · have hne : x ≠ id' := fun e => k1 (e ▸ hu)
        rw [view_mine (σ := σ) hu]
        rw [view_mine (σ := ⟨fr, p', σ.mine ++ [id'], _⟩) (List.mem_append_left _ hu)]
        show (if x = id' then none else σ.nd x) = _
        rw [if_neg hne]
      · rw [view_used h hu]
        exact view_used (σ := ⟨fr, p', σ.mine ++ [id'], _⟩) k3 hu
    · subst hx
      exact .inr fun hu => hu.elim k1 hnu
    · exact fun hu => hu.elim k1 hnu
theorem put_step (h : ApS room used σ) {id : Int} (hid : id ∈ σ.mine) (n : Node) : Step room disk used σ (fun x => x = id) (σ.put id n) (fun x => x = id) ∧ (σ.put id n).view disk id = some n := by
  refine ⟨⟨h, fun x => ?_, fun x hx hu => ?_, fun x hx => .inl hx⟩, ?_⟩
  · show x ∈ σ.mine ↔ _
    constructor
    · intro hx
      by_cases e : x = id
      · exact .inr ⟨e, fun hu => h.um x hu hx⟩
      · exact .inl ⟨hx, e⟩
    · rintro (⟨hx, _⟩ | ⟨rfl, _⟩)
      · exact hx
      · exact hid
  · unfold Pst.view Pst.put
    simp only [if_neg hx]
  · unfold Pst.view Pst.put
    simp only [if_pos hid, if_true]
theorem save_ok (h : ApS room used σ) {id pg : Int} {n : Node} (hs : pSave room σ id n = (.ok pg, σ1)) :
    Step room disk used σ (fun x => x = id) σ1 (fun x => x = pg) ∧ σ1.view disk pg = some n ∧ fits n = true ∧ σ1.mine.length ≤ σ.mine.length + 1 := by
  unfold pSave at hs
  cases hf : fits n with
  | false => rw [hf] at hs; simp at hs
  | true =>
    rw [hf] at hs
    simp only [Bool.true_eq_false, if_false] at hs
    by_cases hid : id ∈ σ.mine
    · rw [if_pos hid] at hs
      simp only [Prod.mk.injEq, Except.ok.injEq] at hs
      obtain ⟨rfl, rfl⟩ := hs
      obtain ⟨h1, h2⟩ := put_step (disk := disk) h hid n
      exact ⟨h1, h2, rfl, Nat.le_succ _⟩
    · rw [if_neg hid] at hs
      cases ha : pAlloc room σ with
      | none => rw [ha] at hs; simp at hs
      | some p =>
        obtain ⟨id', σ'⟩ := p
        rw [ha] at hs
        simp only [Prod.mk.injEq, Except.ok.injEq] at hs
        obtain ⟨rfl, rfl⟩ := hs
        obtain ⟨h1, h2, h3⟩ := alloc_some (disk := disk) h ha
        obtain ⟨h4, h5⟩ := put_step (disk := disk) h1.ap (id := id') (by rw [h2]; simp) n
        refine ⟨⟨h4.ap, fun x => ?_, fun x hx hu => ?_, fun x hx => .inr (hx ▸ h3)⟩, h5, rfl, by show σ'.mine.length ≤ _; rw [h2]; simp⟩
        · have e := (h1.comp h4).mem x
          rw [e]
          constructor
          · rintro (⟨m, _⟩ | ⟨hx, hu⟩)
            · exact .inl ⟨m, fun e => hid (e ▸ m)⟩
            · rcases hx with ⟨hx, _⟩ | hx <;> exact .inr ⟨hx, hu⟩
          · rintro (⟨m, _⟩ | ⟨hx, hu⟩)
            · exact .inl ⟨m, fun hh => by
                rcases hh with hh | ⟨hh, hn⟩
                · exact hh
                · exact hn hh⟩
            · exact .inr ⟨.inr hx, hu⟩
        · refine (h1.comp h4).keep x (fun hh => ?_) hu
          rcases hh with hh | ⟨hh, hn⟩
          · exact hh
          · exact hn hh
theorem save_err (h : ApS room used σ) {id e : Int} {n : Node} (hn : fits n = true) (hs : pSave room σ id n = (.error e, σ1)) : e = 2 ∧ σ1 = σ ∧ spare room used ≤ (σ.mine.length : Int) := by
  unfold pSave at hs
  rw [hn] at hs
  simp only [Bool.true_eq_false, if_false] at hs
  by_cases hid : id ∈ σ.mine
  · rw [if_pos hid] at hs; simp at hs
  · rw [if_neg hid] at hs
    cases ha : pAlloc room σ with
    | none =>
      rw [ha] at hs
      simp only [Prod.mk.injEq, Except.error.injEq] at hs
      exact ⟨hs.1.symm, hs.2.symm, alloc_none h ha⟩
    | some p => rw [ha] at hs; simp at hs
theorem drop_step (h : ApS room used σ) (id : Int) : Step room disk used σ (fun x => x = id) (pDrop σ id) (fun _ => False) ∧ (pDrop σ id).mine.length ≤ σ.mine.length := by
  have hm : ∀ x, x ∈ (σ.mine.filter fun x => x != id) ↔ x ∈ σ.mine ∧ x ≠ id := fun x => by rw [List.mem_filter]; simp
  refine ⟨⟨?_, fun x => ?_, fun x hx hu => ?_, fun x hx => hx.elim⟩, List.length_filter_le _ _⟩
  · show Rp.Ap room (pDrop σ id).free used (pDrop σ id).mine (pDrop σ id).pages
    unfold pDrop
    simp only
    by_cases hid : id ∈ σ.mine
    · rw [if_pos hid]; exact h.dropped hid
    · rw [if_neg hid, Rp.filter_out hid]; exact h
  · show x ∈ (σ.mine.filter fun x => x != id) ↔ _
    rw [hm]; simp
  · rcases hu with hu | hu
    · rw [view_mine hu, view_mine (σ := pDrop σ id) ((hm x).2 ⟨hu, hx⟩)]
      rfl
    · rw [view_used h hu]
      refine view_used (room := room) (σ := pDrop σ id) ?_ hu
      show Rp.Ap room (pDrop σ id).free used (pDrop σ id).mine (pDrop σ id).pages
      unfold pDrop
      simp only
      by_cases hid : id ∈ σ.mine
      · rw [if_pos hid]; exact h.dropped hid
      · rw [if_neg hid, Rp.filter_out hid]; exact h
end
end Tp
