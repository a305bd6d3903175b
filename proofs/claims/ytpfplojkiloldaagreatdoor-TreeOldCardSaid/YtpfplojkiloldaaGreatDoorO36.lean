/- Part of this proof. -/
import Derived.Test.YtpfplojkiloldaaGreatDoorO35
set_option maxRecDepth 100000
set_option maxHeartbeats 8000000
namespace Go.Proofs.YtpfplojkiloldaaGreatDoor
open Go.RowKit Go.Shelf
theorem part_inner {v : Int -> Option Nd.Node} (g : Nat) (LA : Option Addr) (lc : Nat) (xs : List RawPg) (P : List (Int × Nat × Nd.Node)) (hxs : xs.length <= 100000) (H h : Nat) (hH : H = h + 1) (ih : ∀ m, m < H -> ∀ (d k : Nat) (lo hi : Option En.Str) (s : Tp.Sub) (leaf : Int) (o : List Ent) (Y : Option Nat) (rest : List (Int × Nat × Nd.Node)) (w : World),
   Tp.Tr v m lo hi s -> (∀ b, hi = some b -> 0 < b.size) -> P.drop k = Tp.pgL v m d s.id ++ rest -> d + m <= 23 -> (leaf = -1 \/ leaf = ((d + m : Nat) : Int)) -> o.length + s.es.length <= 100000 -> PgL g LA xs P w -> WkAt g LA xs.length lc (k : Nat) leaf o Y w ->
   Calls Tryz.prog 83 #[.pointer (some ⟨g, 0, none⟩), .string (bs lo), .string (bs hi), .int .i64 (d : Nat)] w (RpEnd g LA xs.length lc ((k + s.ids.length : Nat) : Int) ((d + m : Nat) : Int) (o ++ s.es) Y w)) (d k : Nat) (lo hi : Option En.Str) (s : Tp.Sub) (leaf : Int) (o : List Ent) (Y : Option Nat) (rest : List (Int × Nat × Nd.Node)) (w : World)
   (ht : Tp.Tr v H lo hi s) (hhi : ∀ b, hi = some b -> 0 < b.size) (hP : P.drop k = Tp.pgL v H d s.id ++ rest) (hd : d + H <= 23) (hl : leaf = -1 \/ leaf = ((d + H : Nat) : Int)) (ho : o.length + s.es.length <= 100000) (hpg : PgL g LA xs P w) (hw : WkAt g LA xs.length lc (k : Nat) leaf o Y w) :
   Calls Tryz.prog 83 #[.pointer (some ⟨g, 0, none⟩), .string (bs lo), .string (bs hi), .int .i64 (d : Nat)] w (RpEnd g LA xs.length lc ((k + s.ids.length : Nat) : Int) ((d + H : Nat) : Int) (o ++ s.es) Y w) := by
 obtain ⟨n, hv, hfit, hlf⟩ := Tp.tr_node ht
 have hpl : ∃ more, Tp.pgL v H d s.id = (s.id, d, n) :: more := by
   cases H <;> rw [Tp.pgL, hv] <;> exact ⟨_, rfl⟩
 obtain ⟨more, hpl⟩ := hpl
 have hkP : k < P.length := by
   have := congrArg List.length hP
   rw [hpl] at this
   simp at this
   omega
 have hPk : P[k] = (s.id, d, n) := by
   have h := List.drop_eq_getElem_cons hkP
   rw [hP, hpl] at h
   injection h with h _
   exact h.symm
 have hkx : k < xs.length := by have := hpg.len; omega
 obtain ⟨p1, p2, hnl⟩ := hpg.at_ k hkx hkP
 rw [hPk] at p1 p2 hnl
 simp only at p1 p2
 obtain ⟨b, off, rfl, hb, c0, c1, c2, c3, c4, c5⟩ := hpg.ls.pg hkx
 generalize xs[k] = x at *
 have HNL := Lib.hid hnl
 obtain ⟨oA, oc, hB, hrow, hY⟩ := hw
 have m0 := hB.cell 0
 have m1 := hB.cell 1
 have m2 := hB.cell 2
 have m3 := hB.cell 3
 have ml := hB.lt
 have hki : ¬ (xs.length : Int) <= (k : Nat) := by omega
 have hdi : ¬ 23 < (d : Int) := by omega
 have hkk : (k : Int) < (xs.length : Nat) := by omega
 have hwk : IntKind.i64.wrap ((k : Int) + 1) = (k : Int) + 1 := IntWalk.i64_in _ (by omega)
 have HIH := Lib.hid ih
 have HHI := Lib.hid hhi
 have HPP := Lib.hid hP
 have HTR := Lib.hid ht
 have HFIT := Lib.hid hfit
 have HYY := Lib.hid hY
 have HLEAF := Lib.hid hl
 have HPG := Lib.hid hpg
 have hsz := (Tp.fits_iff.1 hfit).2
 have HLF := Lib.hid hlf
 have HV := Lib.hid hv
 obtain ⟨kE, hkE⟩ : ∃ x : Int, x = ((k + s.ids.length : Nat) : Int) := ⟨_, rfl⟩
 obtain ⟨dE, hdE⟩ : ∃ x : Int, x = ((d + H : Nat) : Int) := ⟨_, rfl⟩
 obtain ⟨los, hlos⟩ : ∃ x, x = bs lo := ⟨_, rfl⟩
 obtain ⟨his, hhis⟩ : ∃ x, x = bs hi := ⟨_, rfl⟩
 rw [<- hkE, <- hdE, <- hlos, <- hhis]
 have HLS := Lib.hid hlos
 have HHS := Lib.hid hhis
 have HKE := Lib.hid hkE
 have HDE := Lib.hid hdE
 clear hP hPk hhi ih hv ht hfit hnl hpl hY hl hlf hkP hkE hdE hlos hhis
 go_enter Tryz.func83, Tryz.ntmps83
 go_wp2
 go_quiet (fail)
 have hbz : b < w.heap.size := Nat.lt_trans hb ml
 have hd1 := below_drewN (Below.refl w.heap.size w) nq
 have hB1 := hB.below hd1 ml
 have hr1 := hrow.below hd1
 have HP1 := Lib.hid (hpg.below (hd1.mono (Nat.le_of_lt ml)))
 have HN1 := Lib.hid (HNL.out.below (hd1.mono (Nat.le_of_lt ml)))
 have c0 := (hd1.cell (p := ⟨b, off + k * 6, none⟩) hbz).trans c0
 have c1 := (hd1.cell (p := ⟨b, off + k * 6 + 1, none⟩) hbz).trans c1
 have c2 := (hd1.cell (p := ⟨b, off + k * 6 + 2, none⟩) hbz).trans c2
 have c3 := (hd1.cell (p := ⟨b, off + k * 6 + 3, none⟩) hbz).trans c3
 have c4 := (hd1.cell (p := ⟨b, off + k * 6 + 4, none⟩) hbz).trans c4
 have c5 := (hd1.cell (p := ⟨b, off + k * 6 + 5, none⟩) hbz).trans c5
 have hbz1 : b < (w.drewN nq).heap.size := Nat.lt_of_lt_of_le hbz hd1.size
 have HD1 := Lib.hid hd1
 clear hpg hrow hB m0 m1 m2 m3 HNL hd1
 go_wp2
 generalize w.drewN nq = w1 at *
 have m0 := hB1.cell 0
 have m1 := hB1.cell 1
 have m2 := hB1.cell 2
 have m3 := hB1.cell 3
 have ml1 := hB1.lt
 go_region
 have hb2 : Below w1.heap.size w1 (w1.alloc (.cells #[.int .i64 s.id, .int .i64 (d : Nat), .bool x.leaf, .slice x.ae x.ne x.ce, .slice x.ai x.ni x.ci, .slice x.ay x.ny x.cy] 95)).drew := ((Below.refl _ w1).alloc (Nat.le_refl _) _).drew
 have hBp : Blk (w1.alloc (.cells #[.int .i64 s.id, .int .i64 (d : Nat), .bool x.leaf, .slice x.ae x.ne x.ce, .slice x.ai x.ni x.ci, .slice x.ay x.ny x.cy] 95)).drew w1.heap.size 95 #[.int .i64 s.id, .int .i64 (d : Nat), .bool x.leaf, .slice x.ae x.ne x.ce, .slice x.ai x.ni x.ci, .slice x.ay x.ny x.cy] := Blk.new w1 _ _
 have hB2 := hB1.below hb2 ml1
 have hr2 := hr1.below hb2
 have HP2 := Lib.hid (HP1.out.below (hb2.mono (Nat.le_of_lt ml1)))
 have HN2 := Lib.hid (HN1.out.below (hb2.mono (Nat.le_of_lt ml1)))
 have HD2 := Lib.hid (HD1.out.trans (hb2.mono HD1.out.size))
 have hz1 := HD1.out.size
 clear hB1 hr1 HP1 HN1 m0 m1 m2 m3 c0 c1 c2 c3 c4 c5 HD1 hb2
 generalize (w1.alloc (.cells #[.int .i64 s.id, .int .i64 (d : Nat), .bool x.leaf, .slice x.ae x.ne x.ce, .slice x.ai x.ni x.ci, .slice x.ay x.ny x.cy] 95)).drew = w2 at *
 generalize w1.heap.size = pb at *
 have hpg2 : pb ≠ g := by omega
 have m1 : w2.cell? ⟨g, 1, none⟩ = some (.int .i64 (k : Nat)) := hB2.cell 1
 have mf := hB2.frozen 1
 have ml2 := hB2.lt
 have p0 := hBp.cell 0
 have p1' := hBp.cell 1
 have p2' := hBp.cell 2
 have p3 := hBp.cell 3
 have p4 := hBp.cell 4
 have p5 := hBp.cell 5
 have pl := hBp.lt
 have hS3 : Below g w2 (w2.setCell ⟨g, 1, none⟩ (.int .i64 ((k : Int) + 1))) := (Below.refl g w2).setCell (p := ⟨g, 1, none⟩) (Nat.le_refl g) _
 have hF3 : Fr (fun b => b = g) w2 (w2.setCell ⟨g, 1, none⟩ (.int .i64 ((k : Int) + 1))) := Fr.set_ (S := fun b => b = g) rfl _
 have HRI := Lib.hid (rnright_nl (HN2.out.below hS3) (by rw [World.size_setCell]; omega) HFIT.out)
 have HB3 := Lib.hid (hB2.set_ 1 (.int .i64 ((k : Int) + 1)))
 have HBp3 := Lib.hid (hF3.blk hBp hpg2)
 have HR3 := Lib.hid (LO.fr hr2 hF3 (fun b e => by omega))
 have HP3 := Lib.hid (HP2.out.below hS3)
 have HN3 := Lib.hid (HN2.out.below hS3)
 have HFr3 := Lib.hid ((Fr.of_below HD2.out : Fr (fun b => b = g \/ Y = some b) w w2).trans (hF3.more fun _ => .inl))
 clear hS3 hF3 HP2 HN2 hr2
 go_wp2_with fail
 refine HRI.out.mono ?_
 rintro e w4 ⟨rfl, b4⟩
 have hz4 := b4.size
 simp only [World.size_setCell] at hz4
 have hBp4 := HBp3.out.below b4 HBp3.out.lt
 have p0 := hBp4.cell 0
 have p1' := hBp4.cell 1
 have p2' := hBp4.cell 2
 have p3 := hBp4.cell 3
 have p4 := hBp4.cell 4
 have p5 := hBp4.cell 5
 have pl := hBp4.lt
 have hg4 : g <= (w2.setCell ⟨g, 1, none⟩ (.int .i64 ((k : Int) + 1))).heap.size := by rw [World.size_setCell]; omega
 have HP4 := Lib.hid (HP3.out.below (b4.mono hg4))
 have HN4 := Lib.hid (HN3.out.below (b4.mono hg4))
 have HB4 := Lib.hid (HB3.out.below b4 HB3.out.lt)
 have HR4 := Lib.hid (HR3.out.below b4)
 have HFr4 := Lib.hid (HFr3.out.trans (.of_below b4))
 have HBp4 := Lib.hid hBp4
 have HSZ := Lib.hid (rnsize_nl HN4.out (by omega) HFIT.out)
 clear b4 hBp hBp4 hB2 HRI HB3 HBp3 HR3 HP3 HN3 HFr3 m1 mf hg4
 go_wp2_with fail
 refine HSZ.out.mono ?_
 rintro e w5 ⟨rfl, b5⟩
 have hz5 := b5.size
 have hs240 : ¬ (240 : Int) < (Nd.size n : Nat) := by omega
 generalize Nd.size n = zn at *
 have hBp5 := HBp4.out.below b5 HBp4.out.lt
 have HP5 := Lib.hid (HP4.out.below (b5.mono (by omega)))
 have HN5 := Lib.hid (HN4.out.below (b5.mono (by omega)))
 have hB5 := HB4.out.below b5 HB4.out.lt
 have HR5 := Lib.hid (HR4.out.below b5)
 have HFr5 := Lib.hid (HFr4.out.trans (.of_below b5))
 have p2' := hBp5.cell 2
 have p3 := hBp5.cell 3
 have p4 := hBp5.cell 4
 have p5 := hBp5.cell 5
 have pl := hBp5.lt
 have g2 : w5.cell? ⟨g, 2, none⟩ = some (.int .i64 leaf) := hB5.cell 2
 have g2f := hB5.frozen 2
 have gl := hB5.lt
 have HB5 := Lib.hid hB5
 have HBp5 := Lib.hid hBp5
 clear b5 hB5 hBp5 HP4 HN4 HB4 HR4 HFr4 HBp4 HSZ p0 p1'
 subst hH
 obtain ⟨subs, keys, t1, t2, t3, t4, t5, t6, t7⟩ := HTR.out
 have hn : n = Nd.mkInner (subs.map (·.id)) keys := by have := HV.out; rw [t1] at this; injection this with this; exact this.symm
 have hpl : Tp.pgL v (h + 1) d s.id = (s.id, d, n) :: subs.flatMap (fun t => Tp.pgL v h (d + 1) t.id) := by rw [hn]; exact Tp.pgL_inner t1
 subst hn
 have G := Tp.tr_good v h
 have hPk : P.drop (k + 1) = subs.flatMap (fun t => Tp.pgL v h (d + 1) t.id) ++ rest := by
   have e := HPP.out
   rw [hpl, List.cons_append] at e
   have e2 := congrArg (List.drop 1) e
   rw [List.drop_drop] at e2
   simpa using e2
 have HDR := Lib.hid (kids_drop (f := fun t => Tp.pgL v h (d + 1) t.id) subs (fun t ht => by
   obtain ⟨l', h', hp⟩ := Tp.chain_all t7 t ht
   exact Tp.pgL_len hp) hPk)
 obtain ⟨_, _, hkr, _, _⟩ := Tp.chain_range G t7
 have hmay := ((Nd.keys_iff _).1 (Nd.right_inner.1 (Tp.fits_iff.1 t2).1).2.2.2).1
 have hcl := Tp.chain_len t7
 have HIDS := Lib.hid t3
 have HES := Lib.hid t4
 have HCH := Lib.hid t7
 have HKR := Lib.hid hkr
 have HMAY := Lib.hid hmay
 obtain ⟨n1, n2, n3, n4, n5, n6, n7⟩ := HN5.out
 have hxl : x.leaf = false := n1
 have hxi : x.ni = subs.length := n3.trans (List.length_map _)
 have hxy : x.ny = keys.length := n4
 have HKI := Lib.hid n6
 have HKY := Lib.hid n7
 obtain ⟨ni, hni⟩ : ∃ m, m = subs.length := ⟨_, rfl⟩
 obtain ⟨ny, hny⟩ : ∃ m, m = keys.length := ⟨_, rfl⟩
 have HXL := Lib.hid hxl
 have HXI := Lib.hid (hxi.trans hni.symm)
 have HXY := Lib.hid (hxy.trans hny.symm)
 have HNI := Lib.hid hni
 have HNY := Lib.hid hny
 have hnn : ny + 1 = ni := by omega
 have hnb : ni <= 100000 := by
   have := (fits_nb HFIT.out).i
   rw [hni]
   simpa [Nd.mkInner] using this
 rw [hxl] at p2'
 have HOLEN := Lib.hid ho
 have hOB : ∀ b, (Value.slice oA o.length oc).ownBlock = some b -> Y = some b \/ w.heap.size <= b := fun b e => .inl (HYY.out.trans e)
 have HWK : Hid (∃ Yi, WkAt g (some ⟨b, off, none⟩) xs.length lc ((k : Int) + 1) leaf o Yi w5 /\ ∀ b, Yi = some b -> Y = some b \/ w.heap.size <= b) := Lib.hid ⟨_, ⟨oA, oc, HB5.out, HR5.out, rfl⟩, hOB⟩
 clear t1 t2 t3 t4 t5 t6 t7 hpl hPk hkr hmay hcl n1 n2 n3 n4 n5 n6 n7 hxl hxi hxy hni hny HN5 G HB5 HR5 p3 p4 p5 g2 g2f gl hs240 ho hOB HPP
 go_wp2
 go_loopg [13] ni (fun gg s13 wr => ∃ (i : Nat) (oi : List Ent) (ki : Nat) (lf : Int), s13 = .int .i64 (i : Nat) /\ i <= ni /\ ni - i <= gg /\ Hid (oi = o ++ Tp.es_ (subs.take i)) /\ Hid (ki = k + 1 + (Tp.ids_ (subs.take i)).length) /\ Hid ((i = 0 /\ lf = leaf) \/ (0 < i /\ lf = ((d + 1 + h : Nat) : Int))) /\ Hid (∃ Yi, WkAt g (some ⟨b, off, none⟩) xs.length lc (ki : Nat) lf oi Yi wr /\ ∀ b, Yi = some b -> Y = some b \/ w.heap.size <= b) /\ Hid (Fr (fun b => b = g \/ Y = some b) w wr) /\ Hid (Blk wr pb 95 #[.int .i64 s.id, .int .i64 (d : Nat), .bool x.leaf, .slice x.ae x.ne x.ce, .slice x.ai x.ni x.ci, .slice x.ay x.ny x.cy]) /\ Hid (PgL g (some ⟨b, off, none⟩) xs P wr) /\ Hid (LS intE wr g x.ai (subs.map (·.id))) /\ Hid (LS keyE wr g x.ay keys))
 case atStart => exact ⟨0, o, k + 1, leaf, rfl, Nat.zero_le _, by omega, Lib.hid (by simp [Tp.es_]), Lib.hid (by simp [Tp.ids_]), Lib.hid (.inl ⟨rfl, rfl⟩), Lib.hid (by have := HWK.out; rw [show ((k + 1 : Nat) : Int) = (k : Int) + 1 by omega]; exact this), HFr5, HBp5, HP5, HKI, HKY⟩
 case round =>
   obtain ⟨i, oi, ki, lf, rfl, hil, hig, HO, HK, HLI, HWi, HFi, HBi, HPi, HKIi, HKYi⟩ := hrel
   have hpl := HBi.out.lt
   have hpr4 := HBi.out.cell 4
   have hpr5 := HBi.out.cell 5
   have p4 : wr.cell? ⟨pb, 4, none⟩ = some (.slice x.ai ni x.ci) := by rw [hpr4, HXI.out]; rfl
   have p5 : wr.cell? ⟨pb, 5, none⟩ = some (.slice x.ay ny x.cy) := by rw [hpr5, HXY.out]; rfl
   clear hpr4 hpr5
   by_cases hi2 : i < ni
   · have hii : (i : Int) < (ni : Nat) := by omega
     have hwi : IntKind.i64.wrap ((i : Int) + 1) = (i : Int) + 1 := IntWalk.i64_in _ (by omega)
     obtain ⟨av, hav⟩ : ∃ a, a = bs (lowB lo keys i) := ⟨_, rfl⟩
     obtain ⟨bv, hbv⟩ : ∃ a, a = bs (uppB hi keys i) := ⟨_, rfl⟩
     have HAV := Lib.hid hav
     have HBV := Lib.hid hbv
     clear hav hbv
     go_upto_if 139 with fail
     go_cut [14] from 128 to 210 (fun v14 wx => v14 = .string av /\ wr = wx)
     case first =>
       by_cases h0 : i = 0
       · subst h0
         have e : av = los := by rw [HAV.out, HLS.out]; rfl
         subst e
         go_wp2
         go_meet
         exact ⟨rfl, rfl⟩
       · have h0i : (0 : Int) < (i : Nat) := by omega
         obtain ⟨bk, ok, hax, hbk, q0⟩ := HKYi.out.key (k := i - 1) (by rw [<- HNY.out]; omega)
         rw [hax] at p5
         have q1 : wr.cell? ⟨bk, ok + (i - 1), none⟩ = some (.string av) := by
           rw [q0, HAV.out]
           unfold lowB
           rw [if_neg h0, List.getElem?_eq_getElem (by rw [<- HNY.out]; omega)]
           rfl
         have hbkz : bk < wr.heap.size := by omega
         have hwm : IntKind.i64.wrap ((i : Int) - 1) = ((i - 1 : Nat) : Int) := (IntWalk.i64_in _ (by omega)).trans (by omega)
         have hin : i - 1 < ny := by omega
         have h0n : 0 < i := by omega
         clear hax q0 h0
         go_wp2
         go_meet
         exact ⟨rfl, rfl⟩
     case rest =>
       obtain ⟨rfl, rfl⟩ := hcut
       go_upto_if 152 with fail
       go_cut [15] from 128 to 210 (fun v15 wx => v15 = .string bv /\ wr = wx)
       case first =>
         by_cases hy : i < ny
         · have hyi : (i : Int) < (ny : Nat) := by omega
           obtain ⟨bk, ok, hax, hbk, q0⟩ := HKYi.out.key (k := i) (by rw [<- HNY.out]; exact hy)
           rw [hax] at p5
           have q1 : wr.cell? ⟨bk, ok + i, none⟩ = some (.string bv) := by
             rw [q0, HBV.out]
             unfold uppB
             rw [List.getElem?_eq_getElem (by rw [<- HNY.out]; exact hy)]
             rfl
           have hbkz : bk < wr.heap.size := by omega
           clear hax q0
           go_wp2
           go_meet
           exact ⟨rfl, rfl⟩
         · have hyi : ¬ (i : Int) < (ny : Nat) := by omega
           have e : bv = his := by
             rw [HBV.out, HHS.out]
             unfold uppB
             rw [List.getElem?_eq_none (by rw [<- HNY.out]; omega)]
             rfl
           subst e
           go_wp2
           go_meet
           exact ⟨rfl, rfl⟩
       case rest =>
         obtain ⟨rfl, rfl⟩ := hcut
         have hi3 : i < subs.length := by rw [<- HNI.out]; exact hi2
         have htr := chain_bounds hi3 HCH.out
         obtain ⟨n', hv', _, _⟩ := Tp.tr_node htr
         have hpl' : ∃ more, Tp.pgL v h (d + 1) subs[i].id = (subs[i].id, d + 1, n') :: more := by
           cases h <;> rw [Tp.pgL, hv'] <;> exact ⟨_, rfl⟩
         obtain ⟨more', hpl'⟩ := hpl'
         have hdr := HDR.out i
         rw [<- HK.out, List.drop_eq_getElem_cons hi3, List.flatMap_cons, List.append_assoc] at hdr
         have hkP : ki < P.length := by
           have := congrArg List.length hdr
           rw [hpl'] at this
           simp at this
           omega
         have hPk : P[ki] = (subs[i].id, d + 1, n') := by
           have e := List.drop_eq_getElem_cons hkP
           rw [hdr, hpl'] at e
           injection e with e _
           exact e.symm
         have hkx : ki < xs.length := by have := HPi.out.len; omega
         obtain ⟨r1, r2, r3⟩ := HPi.out.at_ ki hkx hkP
         clear r3
         rw [hPk] at r1 r2
         simp only at r1
         obtain ⟨b', off', hbo, hb', c0, c9⟩ := HPi.out.ls.pg hkx
         clear c9
         cases hbo
         rw [r1] at c0
         obtain ⟨bk, ok, hax, hbk, q0⟩ := HKIi.out.int (k := i) (by rw [List.length_map]; exact hi3)
         rw [List.getElem_map] at q0
         have HTR2 := Lib.hid htr
         have HDR2 := Lib.hid hdr
         obtain ⟨Yi, ⟨oA', oc', hBw, hLw, hYi⟩, hYo⟩ := HWi.out
         have g0 : wr.cell? ⟨g, 0, none⟩ = some (.slice (some ⟨b, off, none⟩) xs.length lc) := hBw.cell 0
         have g1 : wr.cell? ⟨g, 1, none⟩ = some (.int .i64 (ki : Nat)) := hBw.cell 1
         have gl := hBw.lt
         rw [hax] at p4
         have hbkz : bk < wr.heap.size := by omega
         have hbz' : b < wr.heap.size := by omega
         have e1 : Op.bytesLess av.toList los.toList = false := by
           by_cases h0 : i = 0
           · have : av = los := by rw [HAV.out, HLS.out]; unfold lowB; rw [if_pos h0]
             rw [this]; exact En.lt_irrefl los
           · rw [HLS.out]
             refine bs_lo ?_
             have hm : i - 1 < keys.length := by rw [<- HNY.out]; omega
             have : av = keys[i - 1] := by rw [HAV.out]; unfold lowB; rw [if_neg h0, List.getElem?_eq_getElem hm]; rfl
             rw [this]
             exact (HKR.out _ (List.getElem_mem hm)).1
         have hx : his.toList = [] \/ (¬ his.toList = [] /\ (!(Op.bytesLess bv.toList his.toList || bv.toList == his.toList)) = false) := by
           rw [HHS.out, HBV.out]
           cases hi with
           | none => left; show (⟨#[]⟩ : ByteArray).toList = []; rw [Go.Lib.toList_data]
           | some b0 =>
             right
             refine ⟨(Tp.key_ne (HHI.out b0 rfl)).2.2, ?_⟩
             by_cases hy : i < keys.length
             · have e : uppB (some b0) keys i = some keys[i] := by unfold uppB; rw [List.getElem?_eq_getElem hy]; rfl
               rw [e]
               have h2 : Op.bytesLess (bs (some keys[i])).toList (bs (some b0)).toList = true := Tp.ltHi_some.1 (HKR.out _ (List.getElem_mem hy)).2
               rw [h2]; rfl
             · have e : uppB (some b0) keys i = some b0 := by unfold uppB; rw [List.getElem?_eq_none (by omega)]; rfl
               rw [e]; simp
         have hki2 : ¬ (xs.length : Int) <= (ki : Nat) := by omega
         generalize hid0 : subs[i].id = id0 at c0 q0
         have HID0 := Lib.hid hid0
         clear hax htr hdr hpl' hv' hPk r1 r2 hid0 hkP hLw hBw
         go_upto_region 28 with fail
         go_cut [202] from 128 to 210 (fun v wx => v = .bool false /\ Below wr.heap.size wr wx)
         case first =>
           rcases hx with f1 | ⟨f1, f2⟩
           · have f3 : his.toList.isEmpty = true := by simpa using f1
             go_wp2
             go_quiet (fail)
             go_wp2
             go_meet
             exact ⟨congrArg Value.bool (decide_eq_false (by omega)), below_drewN (Below.refl _ _) _⟩
           · have f3 : his.toList.isEmpty = false := by simpa using f1
             go_wp2
             go_quiet (fail)
             go_wp2
             go_meet
             exact ⟨congrArg Value.bool (decide_eq_false (by omega)), below_drewN (Below.refl _ _) _⟩
         case rest =>
           obtain ⟨rfl, hbc⟩ := hcut
           have hzc := hbc.size
           have hgw : g <= wr.heap.size := by omega
           have HBc := Lib.hid (HBi.out.below hbc hpl)
           have HPc := Lib.hid (HPi.out.below (hbc.mono hgw))
           have HKIc := Lib.hid (HKIi.out.below (hbc.mono hgw))
           have HKYc := Lib.hid (HKYi.out.below (hbc.mono hgw))
           have HFc := Lib.hid (HFi.out.trans (.of_below hbc))
           obtain ⟨Yi, ⟨oA', oc', hBw, hLw, hYi⟩, hYo⟩ := HWi.out
           have hBw := hBw.below hbc gl
           have hLw := hLw.below hbc
           have hes : s.es.length = (Tp.es_ (subs.take i)).length + (subs[i].es.length + (Tp.es_ (subs.drop (i + 1))).length) := by
             rw [HES.out]
             conv => lhs; rw [<- List.take_append_drop i subs, Tp.es_append, List.drop_eq_getElem_cons hi3, Tp.es_cons]
             rw [List.length_append, List.length_append]
           have hol : oi.length + subs[i].es.length <= 100000 := by
             have h1 := HOLEN.out
             rw [HO.out, List.length_append]
             omega
           have hlf : lf = -1 \/ lf = ((d + 1 + h : Nat) : Int) := by
             rcases HLI.out with ⟨_, e⟩ | ⟨_, e⟩
             · rw [e]
               rcases HLEAF.out with e2 | e2
               · exact .inl e2
               · exact .inr (by rw [e2]; omega)
             · exact .inr e
           have hub : ∀ b0, uppB hi keys i = some b0 -> 0 < b0.size := fun b0 e => by
             unfold uppB at e
             cases hk : keys[i]? with
             | none => rw [hk] at e; exact HHI.out b0 e
             | some k0 =>
               rw [hk] at e
               injection e with e
               subst e
               have := HMAY.out k0 (List.mem_of_getElem? hk)
               unfold En.may at this
               simp only [Bool.and_eq_true, decide_eq_true_eq] at this
               omega
           have hcall := HIH.out h (Nat.lt_succ_self h) (d + 1) ki (lowB lo keys i) (uppB hi keys i) subs[i] lf oi Yi _ wc HTR2.out hub HDR2.out (by omega) hlf hol HPc.out ⟨oA', oc', hBw, hLw, hYi⟩
           rw [<- HAV.out, <- HBV.out, show ((d + 1 : Nat) : Int) = (d : Int) + 1 by omega] at hcall
           have HCALL := Lib.hid hcall
           have hwd : IntKind.i64.wrap ((d : Int) + 1) = (d : Int) + 1 := IntWalk.i64_in _ (by omega)
           have HYO := Lib.hid hYo
           have hge : ∀ b0, Yi = some b0 -> g + 1 <= b0 := fun b0 e => (World.ownsRow.lt hLw b0 (hYi ▸ e)).1
           have HGE := Lib.hid hge
           have hyp : Yi ≠ some pb := by rw [hYi]; exact own_blk_ne (hLw.raw rfl (s := 2) rfl) HBc.out (by decide)
           have HYP := Lib.hid hyp
           have hO2 : oi ++ subs[i].es = o ++ Tp.es_ (subs.take (i + 1)) := by
             rw [HO.out, List.take_succ_eq_append_getElem hi3, Tp.es_append, List.append_assoc]
             congr 1
             rw [show Tp.es_ [subs[i]] = subs[i].es by simp [Tp.es_]]
           have hK2 : ki + subs[i].ids.length = k + 1 + (Tp.ids_ (subs.take (i + 1))).length := by
             rw [HK.out, List.take_succ_eq_append_getElem hi3, Tp.ids_append, List.length_append]
             rw [show Tp.ids_ [subs[i]] = subs[i].ids by simp [Tp.ids_]]
             omega
           have HO2 := Lib.hid hO2
           have HK2 := Lib.hid hK2
           generalize subs[i] = si at *
           clear hBw hLw hYi hYo hes hol hlf hub hcall hge hyp hO2 hK2 HTR2 HDR2 HBi HPi HKIi HKYi HFi HWi HO HK HLI hx HID0 c0 q0 g0 g1 e1 p4 p5
           go_wp2_with fail
           refine Calls.mono HCALL.out ?_
           rintro e w9 ⟨rfl, ⟨Y9, hW9, hY9⟩, hf9⟩
           have hz9 := hf9.size
           have hl9 : Below g wc w9 := hf9.low (by omega) (fun b0 e => by
             rcases e with e | e
             · omega
             · have := HGE.out b0 e; omega)
           have HW9 : Hid (∃ Yi, WkAt g (some ⟨b, off, none⟩) xs.length lc ((ki + si.ids.length : Nat) : Int) ((d + 1 + h : Nat) : Int) (oi ++ si.es) Yi w9 /\ ∀ b, Yi = some b -> Y = some b \/ w.heap.size <= b) := Lib.hid ⟨Y9, hW9, fun b0 e => by
             rcases hY9 b0 e with e | e
             · exact HYO.out b0 e
             · exact .inr (Nat.le_trans HFc.out.size e)⟩
           have HF9 : Hid (Fr (fun b => b = g \/ Y = some b) w w9) := Lib.hid (HFc.out.go hf9 (fun b0 e => by
             rcases e with e | e
             · exact .inl (.inl e)
             · rcases HYO.out b0 e with e | e
               · exact .inl (.inr e)
               · exact .inr e))
           have HB9 := Lib.hid (hf9.blk HBc.out (fun e => by
             rcases e with e | e
             · exact hpg2 e
             · exact HYP.out e))
           have HP9 := Lib.hid (HPc.out.below hl9)
           have HKI9 := Lib.hid (HKIc.out.below hl9)
           have HKY9 := Lib.hid (HKYc.out.below hl9)
           clear hW9 hY9 hf9 hl9 HCALL HBc HPc HKIc HKYc HFc
           go_wp2
           go_roundg (ni - (i + 1))
           case measure => omega
           case rel => exact ⟨i + 1, oi ++ si.es, ki + si.ids.length, ((d + 1 + h : Nat) : Int), by go_num, by omega, Nat.le_refl _, HO2, HK2, Lib.hid (.inr ⟨by omega, rfl⟩), HW9, HF9, HB9, HP9, HKI9, HKY9⟩
   · obtain rfl : i = ni := by omega
     have hii : ¬ (i : Int) < (i : Nat) := by omega
     have HEND := Lib.hid (show RpEnd g (some ⟨b, off, none⟩) xs.length lc kE dE (o ++ s.es) Y w (.returned (.bool true)) wr from by
       refine ⟨rfl, ?_, HFi.out⟩
       have e1 : kE = (ki : Nat) := by rw [HKE.out, HIDS.out, HK.out, HNI.out, List.take_length, List.length_cons]; omega
       have e2 : lf = dE := by
         rcases HLI.out with ⟨e, _⟩ | ⟨_, e⟩
         · omega
         · rw [e, HDE.out]; omega
       have e3 : oi = o ++ s.es := by rw [HO.out, HNI.out, List.take_length, HES.out]
       rw [e1, <- e2, <- e3]
       exact HWi.out)
     clear HWi HFi HBi HPi HKIi HKYi HO HK HLI
     go_wp2
     go_ret
     exact HEND.out
theorem part_any {v : Int -> Option Nd.Node} (g : Nat) (LA : Option Addr) (lc : Nat) (xs : List RawPg) (P : List (Int × Nat × Nd.Node)) (hxs : xs.length <= 100000) : ∀ (h : Nat), ∀ (d k : Nat) (lo hi : Option En.Str) (s : Tp.Sub) (leaf : Int) (o : List Ent) (Y : Option Nat) (rest : List (Int × Nat × Nd.Node)) (w : World),
   Tp.Tr v h lo hi s -> (∀ b, hi = some b -> 0 < b.size) -> P.drop k = Tp.pgL v h d s.id ++ rest -> d + h <= 23 -> (leaf = -1 \/ leaf = ((d + h : Nat) : Int)) -> o.length + s.es.length <= 100000 -> PgL g LA xs P w -> WkAt g LA xs.length lc (k : Nat) leaf o Y w ->
   Calls Tryz.prog 83 #[.pointer (some ⟨g, 0, none⟩), .string (bs lo), .string (bs hi), .int .i64 (d : Nat)] w (RpEnd g LA xs.length lc ((k + s.ids.length : Nat) : Int) ((d + h : Nat) : Int) (o ++ s.es) Y w) := by
 intro h
 induction h using Nat.strongRecOn with
 | _ h ih =>
   intro d k lo hi s leaf o Y rest w ht hhi hP hd hl ho hpg hw
   rcases Nat.eq_zero_or_pos h with h0 | h0
   · exact part_leaf g LA lc xs P hxs h h0 d k lo hi s leaf o Y rest w ht hhi hP hd hl ho hpg hw
   · exact part_inner g LA lc xs P hxs h (h - 1) (by omega) ih d k lo hi s leaf o Y rest w ht hhi hP hd hl ho hpg hw
theorem NL.more {B B' : Nat} {w : World} {x : RawPg} {n : Nd.Node} (h : NL B w x n) (hb : B <= B') : NL B' w x n := by
 obtain ⟨h1, h2, h3, h4, h5, h6, h7⟩ := h
 exact ⟨h1, h2, h3, h4, h5.more hb, h6.more hb, h7.more hb⟩
theorem PgL.more {g g' : Nat} {LA : Option Addr} {xs : List RawPg} {P : List (Int × Nat × Nd.Node)} {w : World} (h : PgL g LA xs P w) (hb : g <= g') : PgL g' LA xs P w :=
 ⟨h.ls.more hb, h.len, fun j h1 h2 => ⟨(h.at_ j h1 h2).1, (h.at_ j h1 h2).2.1, (h.at_ j h1 h2).2.2.more hb⟩⟩
def RwEnd (es : List Ent) (w : World) (e : Ending) (w' : World) : Prop := ∃ A c, e = .returned (.tuple #[.slice A es.length c, .bool true]) /\ LO entE 38 w' w.heap.size (.slice A es.length c) es /\ Below w.heap.size w w'
theorem rwhole_zero (LA : Option Addr) (lc : Nat) (w : World) : Calls Tryz.prog 52 #[.slice LA 0 lc, .int .i64 0] w (RwEnd [] w) := by
 go_enter Tryz.func52, Tryz.ntmps52
 go_wp2
 go_ret2
 exact ⟨none, 0, rfl, LO.nil_ _ _, Below.refl _ _⟩
theorem rwhole_tree {v : Int -> Option Nd.Node} (LA : Option Addr) (lc : Nat) (xs : List RawPg) (P : List (Int × Nat × Nd.Node)) (hxs : xs.length <= 100000) (h : Nat) (hh : h <= 23) (s : Tp.Sub) (ht : Tp.Tr v h none none s) (h0 : s.id ≠ 0) (hnd : s.ids.Nodup) (hP : P = Tp.pgL v h 0 s.id) (hes : s.es.length <= 100000) (w : World) (hpg : PgL w.heap.size LA xs P w) :
   Calls Tryz.prog 52 #[.slice LA xs.length lc, .int .i64 s.id] w (RwEnd s.es w) := by
 have hids : P.map (·.1) = s.ids := by rw [hP]; exact Tp.pgL_ids h 0 none none s ht
 have hPl : P.length = s.ids.length := by rw [<- hids, List.length_map]
 have hxl : xs.length = s.ids.length := hpg.len.trans hPl
 have hpos : 0 < s.ids.length := List.length_pos_of_mem (Tp.tr_id ht)
 have hid : ∀ (j : Nat) (h1 : j < xs.length) (h2 : j < s.ids.length), xs[j].id = s.ids[j] := fun j h1 h2 => by
   have h3 : j < P.length := by omega
   rw [(hpg.at_ j h1 h3).1]
   have e : (P.map (·.1))[j]'(by simpa using h3) = s.ids[j] := by simp only [hids]
   rw [<- e, List.getElem_map]
 have hdep : xs[0].depth = 0 := by
   rw [(hpg.at_ 0 (by omega) (by omega)).2.1]
   obtain ⟨n, hv, _, _⟩ := Tp.tr_node ht
   have : ∃ more, Tp.pgL v h 0 s.id = (s.id, 0, n) :: more := by cases h <;> rw [Tp.pgL, hv] <;> exact ⟨_, rfl⟩
   obtain ⟨more, hm⟩ := this
   subst hP
   simp only [hm, List.getElem_cons_zero]
 have hdiff : ∀ (i j : Nat) (h1 : i < xs.length) (h2 : j < xs.length), j < i -> xs[j].id ≠ xs[i].id := fun i j h1 h2 hij e => by
   rw [hid i h1 (by omega), hid j h2 (by omega)] at e
   exact List.pairwise_iff_getElem.1 hnd j i (by omega) (by omega) hij e
 have hid0 : xs[0].id = s.id := by
   rw [hid 0 (by omega) hpos]
   have := Tp.tr_ids ht
   have e : s.ids[0]'hpos = (s.id :: s.ids.tail)[0] := by simp only [<- this]
   rw [e]; rfl
 obtain ⟨b, off, rfl, hb, c0, c1, c9⟩ := hpg.ls.pg (k := 0) (by omega)
 clear c9
 rw [hid0] at c0
 rw [hdep] at c1
 have c0 : w.cell? ⟨b, off, none⟩ = some (.int .i64 s.id) := by simpa using c0
 have c1 : w.cell? ⟨b, off + 1, none⟩ = some (.int .i64 0) := by simpa using c1
 have HDF := Lib.hid hdiff
 have HPG := Lib.hid hpg
 have HPA := Lib.hid (fun g W hpg hw => part_any (v := v) g (some ⟨b, off, none⟩) lc xs P hxs h 0 0 none none s (-1) [] none [] W ht (fun b e => by cases e) (by rw [hP, List.append_nil]; rfl) (by omega) (.inl rfl) (by simpa using hes) hpg hw)
 have HRT := Lib.hid ((Tp.tr_good v h).srt ht)
 obtain ⟨nx, hnx⟩ : ∃ m, m = xs.length := ⟨_, rfl⟩
 have hn0 : 0 < nx := by omega
 have hnl : nx <= 100000 := by omega
 have HXL := Lib.hid (hnx.trans hxl)
 have HNX := Lib.hid hnx
 rw [<- hnx]
 have h0b : (s.id == 0) = false := by simpa using h0
 have hnz : ((nx : Int) == 0) = false := by rw [beq_eq_false_iff_ne]; omega
 clear hids hPl hxl hpos hid hdep hdiff hid0 hpg ht hnd hP hnx
 obtain ⟨id0, hid0⟩ : ∃ i, i = s.id := ⟨_, rfl⟩
 rw [<- hid0] at c0 h0 h0b ⊢
 clear hid0
 go_enter Tryz.func52, Tryz.ntmps52
 go_wp2
 go_loopg [6] nx (fun gg s6 wr => ∃ i : Nat, s6 = .int .i64 (i : Nat) /\ i <= nx /\ nx - i <= gg /\ Hid (Below w.heap.size w wr))
 case atStart => exact ⟨0, rfl, Nat.zero_le _, by omega, Lib.hid (Below.refl _ _)⟩
 case round =>
   obtain ⟨i, rfl, hil, hig, HB⟩ := hrel
   have hwi : IntKind.i64.wrap ((i : Int) + 1) = (i : Int) + 1 := IntWalk.i64_in _ (by omega)
   by_cases hi2 : i < nx
   · have hii : (i : Int) < (nx : Nat) := by omega
     go_wp2
     go_loopg [7] i (fun gg s7 wr => ∃ j : Nat, s7 = .int .i64 (j : Nat) /\ j <= i /\ i - j <= gg /\ Hid (Below w.heap.size w wr))
     case atStart => exact ⟨0, rfl, Nat.zero_le _, by omega, HB⟩
     case round =>
       obtain ⟨j, rfl, hjl, hjg, HBj⟩ := hrel
       have hwj : IntKind.i64.wrap ((j : Int) + 1) = (j : Int) + 1 := IntWalk.i64_in _ (by omega)
       by_cases hj : j < i
       · have hji : (j : Int) < (i : Nat) := by omega
         have hjn : (j : Int) < (nx : Nat) := by omega
         have hjn2 : j < nx := by omega
         have hls := HPG.out.ls.below HBj.out
         obtain ⟨b1, o1, e1, hb1, q0, q9⟩ := hls.pg (k := j) (by rw [<- HNX.out]; omega)
         obtain ⟨b2, o2, e2, hb2, q1, q8⟩ := hls.pg (k := i) (by rw [<- HNX.out]; omega)
         clear q8 q9
         cases e1
         cases e2
         have hd := HDF.out i j (by rw [<- HNX.out]; omega) (by rw [<- HNX.out]; omega) hj
         generalize (xs[j]'(by rw [<- HNX.out]; omega)).id = a1 at *
         generalize (xs[i]'(by rw [<- HNX.out]; omega)).id = a2 at *
         have hd2 : (a1 == a2) = false := by simpa using hd
         have hbz : b < wr.heap.size := Nat.lt_of_lt_of_le hb HBj.out.size
         clear hls
         go_wp2
         go_quiet (fail)
         go_wp2
         go_roundg (i - (j + 1))
         case measure => omega
         case rel => exact ⟨j + 1, by go_num, by omega, Nat.le_refl _, Lib.hid (below_drewN HBj.out _)⟩
       · obtain rfl : j = i := by omega
         have hji : ¬ (j : Int) < (j : Nat) := by omega
         go_wp2
         go_roundg (nx - (j + 1))
         case measure => omega
         case rel => exact ⟨j + 1, by go_num, by omega, Nat.le_refl _, HBj⟩
   · obtain rfl : i = nx := by omega
     have hii : ¬ (i : Int) < (i : Nat) := by omega
     have hbA : Below wr.heap.size wr (wr.alloc (.cells #[.slice (some ⟨b, off, none⟩) i lc, .int .i64 0, .int .i64 (-1), .slice none 0 0] 150)) := (Below.refl _ wr).alloc (Nat.le_refl _) _
     have hBw := Blk.new wr 150 #[.slice (some ⟨b, off, none⟩) i lc, .int .i64 0, .int .i64 (-1), .slice none 0 0]
     have hcall := HPA.out wr.heap.size (wr.alloc (.cells #[.slice (some ⟨b, off, none⟩) i lc, .int .i64 0, .int .i64 (-1), .slice none 0 0] 150)) (((HPG.out.below HB.out).more HB.out.size).below hbA) ⟨none, 0, by rw [<- HNX.out]; exact hBw, LO.nil_ _ _, rfl⟩
     have HCALL := Lib.hid hcall
     have HBA := Lib.hid hbA
     clear hcall hbA hBw
     go_wp2_with fail
     refine Calls.mono HCALL.out ?_
     rintro e w4 ⟨rfl, ⟨Y4, ⟨oA, oc, hB4, hL4, _⟩, _⟩, hf4⟩
     rw [List.nil_append] at hB4 hL4
     have hz4 := hf4.size
     simp only [World.size_alloc] at hz4
     have hlw : Below wr.heap.size (wr.alloc (.cells #[.slice (some ⟨b, off, none⟩) i lc, .int .i64 0, .int .i64 (-1), .slice none 0 0] 150)) w4 := hf4.low (by simp) (fun k e => by
       rcases e with e | e
       · omega
       · simp at e)
     have HB4 := Lib.hid (HB.out.trans ((HBA.out.trans hlw).mono HB.out.size))
     have g1 : w4.cell? ⟨wr.heap.size, 1, none⟩ = some (.int .i64 (i : Nat)) := by
       have e : ((0 + s.ids.length : Nat) : Int) = (i : Nat) := by have := HXL.out; omega
       rw [<- e]; exact hB4.cell 1
     have g3 : w4.cell? ⟨wr.heap.size, 3, none⟩ = some (.slice oA s.es.length oc) := hB4.cell 3
     have gl := hB4.lt
     have HBK := Lib.hid hB4
     have HL4 := Lib.hid hL4
     have hrt := rright_any oA oc s.es w4.drew (LO.sv (hL4.below ((Below.refl _ w4).drew))).ls (by omega)
     rw [HRT.out] at hrt
     have HRC := Lib.hid hrt
     have g3d : w4.drew.cell? ⟨wr.heap.size, 3, none⟩ = some (.slice oA s.es.length oc) := g3
     have gld : wr.heap.size < w4.drew.heap.size := gl
     have hzb := HB.out.size
     clear hrt hB4 hL4 hf4 hlw HCALL HBA HPA HDF HPG
     go_wp2
     have hS0 : w4.drew.cell? ⟨wr.heap.size, 3, none⟩ = some (.slice oA s.es.length oc) := g3d
     go_region_held3 (fun W => W.cell? ⟨wr.heap.size, 3, none⟩ = some (.slice oA s.es.length oc)) (first | exact hS0 | exact hS1)
       (first
       | (go_at_call 84; refine HRC.out.mono ?_; rintro e w5 ⟨rfl, hb5⟩; have hS1 : w5.cell? ⟨wr.heap.size, 3, none⟩ = some (.slice oA s.es.length oc) := (hb5.cell (p := ⟨wr.heap.size, 3, none⟩) gld).trans g3d; have hfin : RwEnd s.es w (.returned (.tuple #[.slice oA s.es.length oc, .bool true])) w5 := ⟨oA, oc, rfl, ((HL4.out.below ((Below.refl _ w4).drew)).below hb5).lower (by omega), (HB4.out.drew).trans (hb5.mono HB4.out.drew.size)⟩))
     all_goals
       have HFIN := Lib.hid hfin
       clear hfin hb5
       go_wp2
       go_ret2
       exact HFIN.out
theorem eiPg13 : EI Tryz.prog 95 (.agg #[.int .i64 0, .int .i64 0, .bool false, .slice none 0 0, .slice none 0 0, .slice none 0 0]) 6 96 := EI.mk (by kernel_rfl)
theorem nl_of {lo : Nat} {w : World} {x : RawPg} {n : Nd.Node} (h : NF lo w (nodeV x.leaf x.ae x.ne x.ce x.ai x.ni x.ci x.ay x.ny x.cy) n) : NL w.heap.size w x n := by
 obtain ⟨Ae, ce, Ai, ci, Ay, cy, e, h1, h2, h3⟩ := h
 unfold nodeV at e
 injection e with e
 simp only [Array.mk.injEq, List.cons.injEq, Value.bool.injEq, Value.slice.injEq, and_true] at e
 obtain ⟨e1, ⟨e2, e3, e4⟩, ⟨e5, e6, e7⟩, e8, e9, e10⟩ := e
 refine ⟨e1, e3, e6, e9, ?_, ?_, ?_⟩
 · rw [e2]; exact (LO.sv h1).ls
 · rw [e5]; exact (LO.sv h2).ls
 · rw [e8]; exact (LO.sv h3).ls
section
variable {a : Act} {o : Oper} {x y z : Operand} {w : World} {ad : Addr} {v : Value} {R : Value -> World -> Prop}
theorem op_ia_pg {b off n c i : Nat} (ho : o.op = .indexAddr 52 x y) (hx : a.eval x = .slice (some ⟨b, off, none⟩) n c) (hy : a.eval y = .int .i64 i) (hi : i < n) : (execOp a.eval o).run Tryz.prog w = .ok (.value (.pointer (some ⟨b, off + i * 6, none⟩))) w := by
 unfold execOp
 simp only [ho, hx, hy]
 have h1 : (i : Int) < n := by omega
 simp [go_sem, h1]
theorem op_fapg0 {b off : Nat} (ho : o.op = .fieldAddr 60 x 0) (hx : a.eval x = .pointer (some ⟨b, off, none⟩)) : (execOp a.eval o).run Tryz.prog w = .ok (.value (.pointer (some ⟨b, off, none⟩))) w := by
 unfold execOp
 simp only [ho, hx]
 simp [go_sem]
theorem op_fapg1 {b off : Nat} (ho : o.op = .fieldAddr 60 x 1) (hx : a.eval x = .pointer (some ⟨b, off, none⟩)) : (execOp a.eval o).run Tryz.prog w = .ok (.value (.pointer (some ⟨b, off + 1, none⟩))) w := by
 unfold execOp
 simp only [ho, hx]
 simp [go_sem]
theorem op_bd_n12 {x0 x1 x2 x3 : Operand} {A1 : Option Addr} {n1 c1 : Nat} {A2 : Option Addr} {n2 c2 : Nat} {A3 : Option Addr} {n3 c3 : Nat} {b : Bool} (ho : o.op = .build 93 #[(0, x0), (1, x1), (2, x2), (3, x3)]) (h0 : a.eval x0 = .bool b) (h1 : a.eval x1 = .slice A1 n1 c1) (h2 : a.eval x2 = .slice A2 n2 c2) (h3 : a.eval x3 = .slice A3 n3 c3) : (execOp a.eval o).run Tryz.prog w = .ok (.value (.agg #[.bool b, .slice A1 n1 c1, .slice A2 n2 c2, .slice A3 n3 c3])) w := by
 unfold execOp
 simp only [ho, List.map_toArray, List.map_cons, List.map_nil, h0, h1, h2, h3]
 simp [go_sem]
theorem op_bd_pg {x0 x1 x2 : Operand} {i j : Int} {A1 : Option Addr} {n1 c1 : Nat} {A2 : Option Addr} {n2 c2 : Nat} {A3 : Option Addr} {n3 c3 : Nat} {b : Bool} (ho : o.op = .build 95 #[(0, x0), (1, x1), (2, x2)]) (h0 : a.eval x0 = .int .i64 i) (h1 : a.eval x1 = .int .i64 j) (h2 : a.eval x2 = .agg #[.bool b, .slice A1 n1 c1, .slice A2 n2 c2, .slice A3 n3 c3]) : (execOp a.eval o).run Tryz.prog w = .ok (.value (.agg #[.int .i64 i, .int .i64 j, .bool b, .slice A1 n1 c1, .slice A2 n2 c2, .slice A3 n3 c3])) w := by
 unfold execOp
 simp only [ho, List.map_toArray, List.map_cons, List.map_nil, h0, h1, h2]
 simp [go_sem]
theorem op_bs_pg {i j : Int} {A1 : Option Addr} {n1 c1 : Nat} {A2 : Option Addr} {n2 c2 : Nat} {A3 : Option Addr} {n3 c3 : Nat} {b : Bool} (ho : o.op = .buildSlice 92 1 #[(0, x)]) (h0 : a.eval x = .agg #[.int .i64 i, .int .i64 j, .bool b, .slice A1 n1 c1, .slice A2 n2 c2, .slice A3 n3 c3]) : (execOp a.eval o).run Tryz.prog w = .ok (.value (.slice (some ⟨w.heap.size, 0, none⟩) 1 1)) (w.alloc (.cells #[.int .i64 i, .int .i64 j, .bool b, .slice A1 n1 c1, .slice A2 n2 c2, .slice A3 n3 c3] 95)) := by
 unfold execOp
 simp only [ho, List.map_toArray, List.map_cons, List.map_nil, h0]
 simp [go_sem]
theorem does_apppg {bs b : Nat} {l : List RawPg} {s : RawPg} (ho : o.op = .call { callee := .builtin .append, args := #[x, y], argTypes := #[92, 92] }) (hx : a.eval x = v) (hown : LO pgE 95 w bs v l) (hy : a.eval y = .slice (some ⟨b, 0, none⟩) 1 1) (hB : Blk w b 95 s.cells.toArray) (hlen : l.length + 1 <= maxLen) (hby : (l.length + 1) * 96 <= 140737488355328) (hbs : bs <= w.heap.size)
   (hR : ∀ v' w', LO pgE 95 w' bs v' (l ++ [s]) -> w.grownBy w' v.ownBlock -> (v'.ownBlock = v.ownBlock \/ ∃ g, v'.ownBlock = some g /\ w.heap.size <= g) -> R v' w') : Does o a w R := by
 obtain ⟨i, hi, hz0, hz1, hz2⟩ := eiPg13
 have h1 : ∀ u ∈ s.cells, u.oneCell' = true := fun u hu => pgE.one s u hu
 have hcell : ∀ (j : Nat) (u : Value), s.cells[j]? = some u -> w.cell? ((⟨b, 0, none⟩ : Addr).add j) = some u := by
   intro j u hu
   have e1 : ((⟨b, 0, none⟩ : Addr).add j) = ⟨b, j, none⟩ := by rw [Addr.add_lit]; simp
   rw [e1, hB.cell j]
   simpa using hu
 have hown' : w.ownsRow bs 95 6 v l.length (pgE.cells l) := hown.raw rfl rfl
 obtain ⟨v', w', hrun, h2, h3, h4, h5⟩ := run_append_own_at (P := Tryz.prog) w bs 92 o.type 95 i _ 6 96 Tryz.underlying92 hi hz0 hz1 hz2 rfl (by decide) v l.length (pgE.cells l) hown' ⟨b, 0, none⟩ 1 1 s.cells (by simp [RawPg.cells]) hcell h1 hlen hby hbs
 refine Does.val (v := v') (w' := w') ?_ (hR v' w' ?_ h3 ?_)
 · unfold execOp
   simp only [ho, resolve, invoke, builtin, Sem.run_bind, Sem.run_pure, Result.andThen_ok, List.map_toArray, List.map_cons, List.map_nil, hx, hy, hrun]
 · exact LO.snoc rfl rfl rfl h2
 · rcases h5 with h5 | h5
   · exact .inl h5
   · exact .inr ⟨_, h5, Nat.le_refl _⟩
end
theorem FSt.idsLen {F : FFile} {n : Nat} {a : TAd} {used : List Run} {disk : Tp.Disk} {root : Int} {σ : Tp.Pst} {ids : List Int} {es : List Ent} {tok r : Nat} {w : World} (h : FSt F n a used disk root σ ids es tok r w) : ids.length <= 100000 := by
 rcases h.rt with ⟨_, _, rfl⟩ | ⟨_, s, _, rfl, _, _, _, q6, q7, _⟩
 · exact Nat.zero_le _
 · have hsub : s.ids ⊆ (List.range 100000).map (fun i : Nat => (2 : Int) + (i : Int)) := fun x hx => by
     have h1 := Tp.use_range (room := max (n : Int) 2) h.on.tm.mem.ap (q7 x hx)
     have h3 := h.on.tm.mem.ap.pg
     exact List.mem_map.2 ⟨(x - 2).toNat, List.mem_range.2 (by omega), by omega⟩
   have := List.Nodup.length_le_of_subset q6 hsub
   simpa using this
def FwEnd (F : FFile) (n : Nat) (a : TAd) (used : List Run) (disk : Tp.Disk) (root : Int) (σ : Tp.Pst) (ids : List Int) (es : List Ent) (tok r : Nat) (w : World) (e : Ending) (w' : World) : Prop :=
 ∃ A c, e = .returned (.tuple #[.slice A es.length c, .bool true]) /\ LO entE 38 w' w.heap.size (.slice A es.length c) es /\ FSt F n a used disk root σ ids es tok r w' /\ Fr (SD F a.t a.m) w w'
theorem wholeD_any {F : FFile} {n : Nat} {a : TAd} {used : List Run} {disk : Tp.Disk} {root : Int} {σ : Tp.Pst} {ids : List Int} {es : List Ent} {tok r : Nat} {w : World} (h : FSt F n a used disk root σ ids es tok (r + 2 * ids.length) w) (hes : es.length <= 100000) :
   Calls Tryz.prog 25 #[.pointer (some ⟨a.u, 0, none⟩)] w (FwEnd F n a used disk root σ ids es tok r w) := by
 have HC := Lib.hid (fst_walk h)
 have hil := h.idsLen
 have hnd := h.nodup
 have hel := h.rt.len
 have htl := h.tl
 have HND := Lib.hid hnd
 clear h hnd
 go_enter Tryz.func25, Tryz.ntmps25
 go_wp2_with fail
 refine Calls.mono HC.out ?_
 rintro e w2 ⟨Aw, cw, xs, P, rfl, rw2, hp, hwk, h2, f2⟩
 have hxl : xs.length = P.length := hp.1
 have hPl := hwk.len
 obtain ⟨b1, hb1⟩ : ∃ b, b = w2.heap.size := ⟨_, rfl⟩
 have hnl : ∀ (j : Nat) (h1 : j < xs.length) (h2 : j < P.length), xs[j].id = P[j].1 /\ xs[j].depth = P[j].2.1 /\ NL b1 w2 xs[j] P[j].2.2 := fun j h1 h3 => ⟨(hp.2 j h1 h3).1, (hp.2 j h1 h3).2.1, hb1 ▸ nl_of (hp.2 j h1 h3).2.2⟩
 have hls : LS pgE w2 b1 Aw xs := hb1 ▸ (LO.sv rw2).ls
 have HNL := Lib.hid hnl
 have HLS := Lib.hid hls
 have HWK := Lib.hid hwk
 have HT2 := Lib.hid h2
 have HF2 := Lib.hid f2
 have HB1 := Lib.hid hb1
 have HXP := Lib.hid hxl
 obtain ⟨nx, hnx⟩ : ∃ m, m = xs.length := ⟨_, rfl⟩
 have hnl2 : nx <= 100000 := by omega
 have HNX := Lib.hid hnx
 have hbz0 : b1 <= w2.heap.size := by omega
 rw [<- hnx]
 clear rw2 hp hwk h2 hxl hPl hnl hls hnx hb1 f2 HC hil
 go_wp2
 go_loopg [6, 7] nx (fun gg s6 s7 wr => ∃ (j : Nat) (Al : Option Addr) (cl : Nat) (ys : List RawPg), s6 = .slice Al ys.length cl /\ s7 = .int .i64 (j : Nat) /\ j <= nx /\ nx - j <= gg /\ ys.length <= j /\ Hid (ys = xs.take j) /\ Hid (LO pgE 95 wr b1 (.slice Al ys.length cl) ys) /\ Hid (Below b1 w2 wr))
 case atStart => exact ⟨0, none, 0, [], rfl, rfl, Nat.zero_le _, by omega, Nat.zero_le _, Lib.hid rfl, Lib.hid (LO.nil_ _ _), Lib.hid (Below.refl _ _)⟩
 case round =>
   obtain ⟨j, Al, cl, ys, rfl, rfl, hjl, hjg, hyl, HY, HL, HB⟩ := hrel
   have hwj : IntKind.i64.wrap ((j : Int) + 1) = (j : Int) + 1 := IntWalk.i64_in _ (by omega)
   have hbz := HB.out.size
   by_cases hj : j < nx
   · have hji : (j : Int) < (nx : Nat) := by omega
     have hj2 : j < xs.length := by rw [<- HNX.out]; exact hj
     obtain ⟨bb, oo, rfl, hbb, c0, c1, c2, c3, c4, c5⟩ := (HLS.out.below HB.out).pg hj2
     have hTK := Lib.hid (List.take_succ_eq_append_getElem hj2)
     generalize xs[j] = x at *
     have hbb2 : bb < wr.heap.size := by omega
     have hbA : Below wr.heap.size wr (wr.alloc (.cells #[.bool x.leaf, .slice x.ae x.ne x.ce, .slice x.ai x.ni x.ci, .slice x.ay x.ny x.cy] 58)) := (Below.refl _ wr).alloc (Nat.le_refl _) _
     have hxb := Blk.new wr 58 #[.bool x.leaf, .slice x.ae x.ne x.ce, .slice x.ai x.ni x.ci, .slice x.ay x.ny x.cy]
     obtain ⟨o1, ho1⟩ : ∃ z, z = (Value.slice Al ys.length cl).ownBlock := ⟨_, rfl⟩
     have HO1 := Lib.hid ho1
     obtain ⟨wB, hwB⟩ : ∃ z, z = wr.alloc (.cells #[.bool x.leaf, .slice x.ae x.ne x.ce, .slice x.ai x.ni x.ci, .slice x.ay x.ny x.cy] 58) := ⟨_, rfl⟩
     have hbA2 : Below wr.heap.size wr wB := hwB ▸ hbA
     have hxb2 : Blk wB wr.heap.size 58 #[.bool x.leaf, .slice x.ae x.ne x.ce, .slice x.ai x.ni x.ci, .slice x.ay x.ny x.cy] := hwB ▸ hxb
     have HLW := Lib.hid (HL.out.below hbA2)
     have hown : ∀ g, o1 = some g -> b1 <= g /\ g < wr.heap.size := fun g e => by
       have h1 := World.ownsRow.lt HL.out g (ho1 ▸ e)
       exact h1
     have HOWN := Lib.hid hown
     have hlen : (ys ++ [x]).length = ys.length + 1 := by simp
     have d0' : wB.cell? ⟨bb, oo + j * 6, none⟩ = some (.int .i64 x.id) := (hbA2.cell (p := ⟨bb, oo + j * 6, none⟩) hbb2).trans c0
     have d1' : wB.cell? ⟨bb, oo + j * 6 + 1, none⟩ = some (.int .i64 (x.depth : Nat)) := (hbA2.cell (p := ⟨bb, oo + j * 6 + 1, none⟩) hbb2).trans c1
     have hzB := hbA2.size
     clear hbA hxb
     go_wp2
     rw [<- hwB]
     clear hwB
     refine wp_region_last (base := wB.heap.size) 23 (fun u => ⟨#[_, _, _, _, _, _, _, _, _, _, _, _, _, _, _, _, _, _, _, _, _, _, _, _, _, _, _, u 0, u 1, u 2, u 3, u 4, u 5, u 6, u 7, u 8, u 9, u 10, u 11, u 12, u 13, u 14, u 15, u 16, u 17, u 18, u 19, u 20, u 21, u 22, _, _, _, _, _, _], _⟩)
       [Is.eq _ (.slice Al ys.length cl), Is.eq _ (.slice (some ⟨bb, oo, none⟩) nx cw), Is.eq _ (.int .i64 (j : Nat)), Is.eq _ (.pointer (some ⟨bb, oo + j * 6, none⟩)), Is.eq _ (.pointer (some ⟨bb, oo + j * 6, none⟩)), Is.eq _ (.int .i64 x.id), Is.eq _ (.slice (some ⟨bb, oo, none⟩) nx cw), Is.eq _ (.int .i64 (j : Nat)), Is.eq _ (.pointer (some ⟨bb, oo + j * 6, none⟩)), Is.eq _ (.pointer (some ⟨bb, oo + j * 6 + 1, none⟩)), Is.eq _ (.int .i64 (x.depth : Nat)), Is.eq _ (.pointer (some ⟨wr.heap.size, 0, none⟩)), Is.eq _ (.bool x.leaf), Is.eq _ (.pointer (some ⟨wr.heap.size, 1, none⟩)), Is.eq _ (.slice x.ae x.ne x.ce), Is.eq _ (.pointer (some ⟨wr.heap.size, 2, none⟩)), Is.eq _ (.slice x.ai x.ni x.ci), Is.eq _ (.pointer (some ⟨wr.heap.size, 3, none⟩)), Is.eq _ (.slice x.ay x.ny x.cy), Is.eq _ (.agg #[.bool x.leaf, .slice x.ae x.ne x.ce, .slice x.ai x.ni x.ci, .slice x.ay x.ny x.cy]), Is.eq _ (.agg #[.int .i64 x.id, .int .i64 (x.depth : Nat), .bool x.leaf, .slice x.ae x.ne x.ce, .slice x.ai x.ni x.ci, .slice x.ay x.ny x.cy]), Is.blk _ 95 1 x.cells.toArray, Is.app _ pgE 95 b1 o1 (ys ++ [x])]
       (by kernel_rfl) rfl (by kernel_rfl) (by kernel_rfl) (by kernel_rfl) o1.toList (by cases o1 <;> rfl) (Nat.le_refl _) ?_ (by cases o1 <;> simp) ⟨fun i => (#[u27, u28, u29, u30, u31, u32, u33, u34, u35, u36, u37, u38, u39, u40, u41, u42, u43, u44, u45, u46, u47, u48, u49] : Array Value).getD i undef, rfl⟩ ?_ ?_
     · intro g hg
       have := (HOWN.out g (by simpa using hg)).2
       omega
     · intro i o hi7 ho u W hf hold hdep
       have hnL : ∀ g, g ∈ o1.toList -> b1 <= g /\ g < wr.heap.size := fun g hg => HOWN.out g (by simpa using hg)
       have hxW := hf.blk hxb2 (fun a => by have := hnL _ a; omega)
       have x0 := hxW.cell 0
       have x1 := hxW.cell 1
       have x2 := hxW.cell 2
       have x3 := hxW.cell 3
       have hbW : Below b1 wB W := hf.low (by omega) (fun g a => (hnL g a).1)
       have d0 := (hbW.cell (p := ⟨bb, oo + j * 6, none⟩) hbb).trans d0'
       have d1 := (hbW.cell (p := ⟨bb, oo + j * 6 + 1, none⟩) hbb).trans d1'
       have hsz := hf.size
       match i, ho with
       | 0, ho => obtain rfl := Option.some.inj ho; exact Does.val (op_mv rfl rfl) ⟨rfl, rfl, Fr.refl _⟩
       | 1, ho => obtain rfl := Option.some.inj ho; exact Does.val (op_mv rfl rfl) ⟨rfl, rfl, Fr.refl _⟩
       | 2, ho => obtain rfl := Option.some.inj ho; exact Does.val (op_mv rfl rfl) ⟨rfl, rfl, Fr.refl _⟩
       | 3, ho => obtain rfl := Option.some.inj ho; exact Does.val (op_ia_pg rfl (hdep 1 rfl) (hdep 2 rfl) hj) ⟨rfl, rfl, Fr.refl _⟩
       | 4, ho => obtain rfl := Option.some.inj ho; exact Does.val (op_fapg0 rfl (hdep 3 rfl)) ⟨rfl, rfl, Fr.refl _⟩
       | 5, ho => obtain rfl := Option.some.inj ho; exact Does.val (op_ldint rfl (hdep 4 rfl) d0) ⟨rfl, rfl, Fr.refl _⟩
       | 6, ho => obtain rfl := Option.some.inj ho; exact Does.val (op_mv rfl rfl) ⟨rfl, rfl, Fr.refl _⟩
       | 7, ho => obtain rfl := Option.some.inj ho; exact Does.val (op_mv rfl rfl) ⟨rfl, rfl, Fr.refl _⟩
       | 8, ho => obtain rfl := Option.some.inj ho; exact Does.val (op_ia_pg rfl (hdep 6 rfl) (hdep 7 rfl) hj) ⟨rfl, rfl, Fr.refl _⟩
       | 9, ho => obtain rfl := Option.some.inj ho; exact Does.val (op_fapg1 rfl (hdep 8 rfl)) ⟨rfl, rfl, Fr.refl _⟩
       | 10, ho => obtain rfl := Option.some.inj ho; exact Does.val (op_ldint rfl (hdep 9 rfl) d1) ⟨rfl, rfl, Fr.refl _⟩
       | 11, ho => obtain rfl := Option.some.inj ho; exact Does.val (op_fan0 rfl rfl) ⟨rfl, rfl, Fr.refl _⟩
       | 12, ho => obtain rfl := Option.some.inj ho; exact Does.val (op_ldbool rfl (hdep 11 rfl) x0) ⟨rfl, rfl, Fr.refl _⟩
       | 13, ho => obtain rfl := Option.some.inj ho; exact Does.val (op_fan1 rfl rfl) ⟨rfl, rfl, Fr.refl _⟩
       | 14, ho => obtain rfl := Option.some.inj ho; exact Does.val (op_ld_ents rfl (hdep 13 rfl) x1) ⟨rfl, rfl, Fr.refl _⟩
       | 15, ho => obtain rfl := Option.some.inj ho; exact Does.val (op_fan2 rfl rfl) ⟨rfl, rfl, Fr.refl _⟩
       | 16, ho => obtain rfl := Option.some.inj ho; exact Does.val (op_ld_ints rfl (hdep 15 rfl) x2) ⟨rfl, rfl, Fr.refl _⟩
       | 17, ho => obtain rfl := Option.some.inj ho; exact Does.val (op_fan3 rfl rfl) ⟨rfl, rfl, Fr.refl _⟩
       | 18, ho => obtain rfl := Option.some.inj ho; exact Does.val (op_ld_keys rfl (hdep 17 rfl) x3) ⟨rfl, rfl, Fr.refl _⟩
       | 19, ho => obtain rfl := Option.some.inj ho; exact Does.val (op_bd_n12 rfl (hdep 12 rfl) (hdep 14 rfl) (hdep 16 rfl) (hdep 18 rfl)) ⟨rfl, rfl, Fr.refl _⟩
       | 20, ho => obtain rfl := Option.some.inj ho; exact Does.val (op_bd_pg rfl (hdep 5 rfl) (hdep 10 rfl) (hdep 19 rfl)) ⟨rfl, rfl, Fr.refl _⟩
       | 21, ho => obtain rfl := Option.some.inj ho; exact Does.val (op_bs_pg rfl (hdep 20 rfl)) ⟨rfl, ⟨W.heap.size, hsz, rfl, Blk.new _ _ _⟩, .of_below ((Below.refl _ _).alloc (Nat.le_refl _) _)⟩
       | 22, ho =>
         obtain rfl := Option.some.inj ho
         obtain ⟨b, hb0, hb1, hb2⟩ := hdep 21 rfl
         have hownW : LO pgE 95 W b1 (.slice Al ys.length cl) ys := LO.held HLW.out (fun g hg => hold g (HO1.out.trans hg))
         refine does_apppg rfl (hdep 0 rfl) hownW hb1 hb2 (by unfold maxLen; omega) (by omega) (by omega) ?_
         intro v' w' h1 h2 h3
         refine ⟨rfl, ⟨h1, h1.form, ?_⟩, ?_⟩
         · rcases h3 with h3 | ⟨g, h3, h4⟩
           · exact .inl (h3.trans HO1.out.symm)
           · exact .inr ⟨g, h3, by omega⟩
         · rw [<- HO1.out] at h2; exact Fr.of_grown h2
       | n + 23, ho => omega
     intro o ho u W hf hall
     obtain rfl := Option.some.inj ho
     have hnL : ∀ g, g ∈ o1.toList -> b1 <= g /\ g < wr.heap.size := fun g hg => HOWN.out g (by simpa using hg)
     obtain ⟨hL5, ⟨A', c', e5⟩, _⟩ := hall 22 (by decide)
     have hbW : Below b1 w2 W := HB.out.trans ((hbA2.mono (by omega)).trans (hf.low (by omega) (fun g a => (hnL g a).1)))
     rw [e5] at hL5
     refine Does.val (op_as rfl e5) ?_
     have HLN := Lib.hid hL5
     have HBN := Lib.hid hbW
     have HYN : Hid (ys ++ [x] = xs.take (j + 1)) := Lib.hid (by rw [hTK.out, <- HY.out])
     have hyl2 : (ys ++ [x]).length <= j + 1 := by simp; omega
     clear hL5 hbW hall hf
     go_wp2
     go_roundg (nx - (j + 1))
     case measure => omega
     case rel => exact ⟨j + 1, A', c', ys ++ [x], by rw [hlen], by go_num, by omega, Nat.le_refl _, hyl2, HYN, HLN, HBN⟩
   · obtain rfl : j = nx := by omega
     have hji : ¬ (j : Int) < (j : Nat) := by omega
     have hys : ys = xs := by rw [HY.out, HNX.out, List.take_length]
     subst hys
     have hBr : Below w2.heap.size w2 wr := HB1.out ▸ HB.out
     have hT := HT2.out.below hBr
     have hpg : PgL wr.heap.size Al ys P wr := ⟨(LO.sv HL.out).ls, HXP.out, fun k h1 h2 => ⟨(HNL.out k h1 h2).1, (HNL.out k h1 h2).2.1, ((HNL.out k h1 h2).2.2.below HB.out).more (by omega)⟩⟩
     have hcall : Calls Tryz.prog 52 #[.slice Al ys.length cl, .int .i64 root] wr (RwEnd es wr) := by
       rcases HWK.out with ⟨r1, r2, r3, r4⟩ | ⟨hh, s, r1, r2, r3, r4, r5, r6, r7⟩
       · have e0 : ys.length = 0 := by rw [HXP.out, r3]; rfl
         rw [e0, r1, r2]
         exact rwhole_zero Al cl wr
       · have h8 := Tp.low_of r6 (by omega)
         have hmem : s.id ∈ ids := by rw [<- r2]; exact Tp.tr_id r5
         have hz : s.id ≠ 0 := by
           rcases HT2.out.rt with ⟨_, _, e⟩ | ⟨_, s', _, e, _, _, _, _, q7, _⟩
           · rw [e] at hmem; cases hmem
           · exact HT2.out.nz (q7 s.id hmem)
         rw [<- r1, <- r3]
         exact rwhole_tree Al cl ys P (by omega) hh (by omega) s r5 hz (by rw [r2]; exact HND.out) (by rw [r7, r1]) (by rw [r3]; omega) wr hpg
     have HRT := Lib.hid (troot_any a.u root 0 wr hT.on.self)
     have HCALL := Lib.hid hcall
     have HTr := Lib.hid hT
     have HFr := Lib.hid (HF2.out.then_ hBr)
     clear hBr hT hpg hcall HL HY HB HNL HLS
     go_wp2_with fail
     refine Calls.mono HRT.out ?_
     rintro e _ ⟨rfl, rfl⟩
     go_wp2_with fail
     refine Calls.mono HCALL.out ?_
     rintro e w9 ⟨A9, c9, rfl, r9, b9⟩
     have HEND := Lib.hid (show FwEnd F n a used disk root σ ids es tok r w (.returned (.tuple #[.slice A9 es.length c9, .bool true])) w9 from ⟨A9, c9, rfl, r9.lower HFr.out.size, HTr.out.below b9, HFr.out.then_ b9⟩)
     clear r9 b9
     go_wp2
     go_ret2
     exact HEND.out
end Go.Proofs.YtpfplojkiloldaaGreatDoor
