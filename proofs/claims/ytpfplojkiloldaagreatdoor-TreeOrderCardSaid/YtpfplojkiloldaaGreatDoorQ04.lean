/- The walks of entry's Size, Half, Encode to the byte. Plain: entries and nodes of bytes; what was encoded is decoded. The walks of entry.Encode to the byte; of codec's Reader at whatever bytes; of entry.Decode. The walks of codec's Reader.End at whatever bytes; of entry.Decode. -/
import Derived.Test.YtpfplojkiloldaaGreatDoorQ03
namespace Go.Proofs.YtpfplojkiloldaaGreatDoor
open Go.RowKit Go.Shelf
theorem ls_cells {α : Type} (E : Enc α) (W : World) (ty : TypeId) (l : List α) (cs : Array Value) (hc : cs.toList = E.cells l) (B : Nat) (hB : W.heap.size < B) : LS E (W.alloc (.cells cs ty)) B (some ⟨W.heap.size, 0, none⟩) l := by
  refine ⟨by rw [Enc.cells_length], fun _ => ⟨_, rfl, by simpa using hB, fun j u hu => ?_⟩⟩
  rw [Addr.add_lit, Nat.zero_add, (Blk.new W ty _).cell j, ← Array.getElem?_toList, hc]
  exact hu
theorem esize_take_le (l : List Ent) (k : Nat) : Nd.esize (l.take k) ≤ Nd.esize l := by
  have := Nd.esize_append (l.take k) (l.drop k)
  rw [List.take_append_drop] at this
  omega
theorem esz_eq (x : Ent) : Nd.esz x = 2 + x.1.size + x.2.size := rfl
set_option maxRecDepth 100000 in
set_option maxHeartbeats 1000000 in
theorem esize_any (A : Option Addr) (c : Nat) (l : List Ent) (w : World) (hr : LS entE w w.heap.size A l) (hl : l.length ≤ 100000) (hs : Nd.esize l ≤ 1000000000) :
    Calls Tryz.prog 136 #[.slice A l.length c] w fun e w' => e = .returned (.int .i64 (Nd.esize l : Nat)) ∧ Below w.heap.size w w' := by
  have hT := Lib.hid (fun k => esize_take_le l k)
  obtain ⟨o, ho⟩ : ∃ o, o = Nd.esize l := ⟨_, rfl⟩
  rw [← ho]
  rw [← ho] at hs
  have HO := Lib.hid ho
  clear ho
  go_enter Tryz.func136, Tryz.ntmps136
  go_wp2
  go_loopw [3, 8] (fun n i wr => ∃ (k m : Nat), k ≤ l.length ∧ i = .int .i64 k ∧ n = .int .i64 m ∧ Hid (m = Nd.esize (l.take k)) ∧ Below w.heap.size w wr) (fun _ i _ => l.length - (intOf i).toNat)
  case atStart => exact ⟨0, 0, by omega, rfl, rfl, Lib.hid (by simp [Nd.esize]), Below.refl _ _⟩
  case round =>
    obtain ⟨k, m, hk, rfl, rfl, HM, hbe⟩ := hrel
    by_cases hlt : k < l.length
    · obtain ⟨b2, o2, rfl, hb2, g0, g1⟩ := (hr.below hbe).ent hlt
      have h1 := Nd.esize_take_succ l k hlt
      have h2 := hT.out (k + 1)
      rw [← HO.out, h1, ← HM.out, esz_eq] at h2
      have H1 := Lib.hid h1
      clear h1
      obtain ⟨x, hx⟩ : ∃ x, x = l[k] := ⟨_, rfl⟩
      rw [← hx] at g0 g1 h2
      obtain ⟨x1, x2⟩ := x
      have HX := Lib.hid hx
      clear hx
      simp only at g0 g1 h2
      have hb2' : b2 < wr.heap.size := by have := hbe.size; omega
      have q1 : 0 ≤ (x1.size : Int) ∧ 0 ≤ (x2.size : Int) := ⟨by omega, by omega⟩
      go_wp2
      go_roundw
      case rel =>
        refine ⟨k + 1, m + (2 + x1.size + x2.size), by omega, by go_num, ?_, Lib.hid ?_, hbe.alloc hbe.size _⟩
        · go_num
        · rw [H1.out, ← HM.out, ← HX.out, esz_eq]
      case measure => simp [intOf]; omega
    · obtain rfl : k = l.length := by omega
      go_wp2
      go_ret
      refine ⟨?_, hbe⟩
      have hm : m = o := by rw [HM.out, HO.out, List.take_length]
      subst hm
      rfl
theorem half_at (all len : Nat) (i n : Nat) (l : List Ent) (k : Nat) (hk : k < l.length) : Nd.halfFrom all len i n (l.drop k) = if 0 < i ∧ (all ≤ 2 * n ∨ i + 1 = len) then i else Nd.halfFrom all len (i + 1) (n + Nd.esz l[k]) (l.drop (k + 1)) := by
  rw [List.drop_eq_getElem_cons hk, Nd.halfFrom]
set_option maxRecDepth 100000 in
set_option maxHeartbeats 1000000 in
theorem ehalf_any (A : Option Addr) (c : Nat) (l : List Ent) (w : World) (hr : LS entE w w.heap.size A l) (hl : l.length ≤ 100000) (hs : Nd.esize l ≤ 1000000000) :
    Calls Tryz.prog 147 #[.slice A l.length c] w fun e w' => e = .returned (.int .i64 (Nd.half l : Nat)) ∧ Below w.heap.size w w' := by
  have hT := Lib.hid (fun k => esize_take_le l k)
  have hS := hid_calls (esize_any A c l w hr hl hs)
  have HS := Lib.hid (fun W A c x h1 h2 h3 => esize_any A c x W h1 h2 h3)
  obtain ⟨o, ho⟩ : ∃ o, o = Nd.half l := ⟨_, rfl⟩
  rw [← ho]
  have HO := Lib.hid ho
  clear ho
  obtain ⟨all, hall⟩ : ∃ a, a = Nd.esize l := ⟨_, rfl⟩
  rw [← hall] at hs hS
  have HALL := Lib.hid hall
  clear hall
  go_enter Tryz.func147, Tryz.ntmps147
  go_wp2_with fail
  refine hS.out.mono ?_
  rintro e w1 ⟨rfl, b1⟩
  have hr1 := hr.up b1
  clear hS
  go_wp2
  go_loopw [4, 11] (fun n i wr => ∃ (k m : Nat), k ≤ l.length ∧ i = .int .i64 k ∧ n = .int .i64 m ∧ Hid (m = Nd.esize (l.take k)) ∧ Hid (Nd.half l = Nd.halfFrom all l.length k m (l.drop k)) ∧ Below w1.heap.size w1 wr) (fun _ i _ => l.length - (intOf i).toNat)
  case atStart => exact ⟨0, 0, by omega, rfl, rfl, Lib.hid (by simp [Nd.esize]), Lib.hid (by rw [HALL.out]; rfl), Below.refl _ _⟩
  case round =>
    obtain ⟨k, m, hk, rfl, rfl, HM, HH, hbe⟩ := hrel
    by_cases hlt : k < l.length
    · obtain ⟨b2, o2, rfl, hb2, g0, g1⟩ := (hr1.below hbe).ent hlt
      have h1 := Nd.esize_take_succ l k hlt
      have h2 := hT.out (k + 1)
      have hat := Lib.hid (half_at all l.length k m l k hlt)
      rw [← HALL.out, h1, ← HM.out] at h2
      have H1 := Lib.hid h1
      clear h1
      obtain ⟨x, hx⟩ : ∃ x, x = l[k] := ⟨_, rfl⟩
      rw [← hx] at g0 g1 h2
      have HX := Lib.hid hx
      clear hx
      have hb2' : b2 < wr.heap.size := by have := hbe.size; omega
      have hone := HS.out ((wr.alloc (.cells #[.string x.1, .string x.2] 38)).alloc (.cells #[.string x.1, .string x.2] 38)) (some ⟨wr.heap.size + 1, 0, none⟩) 1 [x]
      have HONE := Lib.hid hone
      clear hone
      by_cases hstop : 0 < k ∧ (all ≤ 2 * m ∨ k + 1 = l.length)
      · have hc := hat.out
        rw [if_pos hstop] at hc
        have HC := Lib.hid hc
        clear hc
        obtain ⟨s1, s2⟩ := hstop
        have d1 : decide (0 < (k : Int)) = true := by simp; omega
        by_cases s3 : all ≤ 2 * m
        · have d2 : decide ((all : Int) ≤ 2 * m) = true := by simp; omega
          clear s2 s3
          go_wp2
          go_ret
          exact ⟨by rw [HO.out, HH.out, HC.out]; rfl, b1.trans ((hbe.alloc hbe.size _).mono b1.size)⟩
        · have d2 : decide ((all : Int) ≤ 2 * m) = false := by simp; omega
          have s4 : k + 1 = l.length := by omega
          have d3 : ((k : Int) == l.length - 1) = true := by rw [beq_iff_eq]; omega
          clear s2 s3 s4
          go_wp2
          go_ret
          exact ⟨by rw [HO.out, HH.out, HC.out]; rfl, b1.trans ((hbe.alloc hbe.size _).mono b1.size)⟩
      · have hc := hat.out
        rw [if_neg hstop] at hc
        have HC := Lib.hid hc
        clear hc
        have hbe2 := hbe.alloc hbe.size (.cells #[.string x.1, .string x.2] 38)
        have hes : Nd.esize [x] = Nd.esz x := by simp [Nd.esize]
        have hz : Nd.esz x ≤ 1000000000 := by omega
        have hcall : Calls Tryz.prog 136 #[.slice (some ⟨wr.heap.size + 1, 0, none⟩) 1 1] ((wr.alloc (.cells #[.string x.1, .string x.2] 38)).alloc (.cells #[.string x.1, .string x.2] 38)) fun e w' => e = .returned (.int .i64 (Nd.esz x : Nat)) ∧ Below (wr.heap.size + 2) ((wr.alloc (.cells #[.string x.1, .string x.2] 38)).alloc (.cells #[.string x.1, .string x.2] 38)) w' := by
          have := HONE.out (by have := ls_cells entE (wr.alloc (.cells #[.string x.1, .string x.2] 38)) 38 [x] #[.string x.1, .string x.2] (by rw [Enc.cells_one]; rfl) (wr.heap.size + 2) (by simp); simpa using this) (by simp) (by rw [hes]; exact hz)
          rw [hes] at this
          simpa using this
        have HCALL := Lib.hid hcall
        have hrel2 : ∀ w3, Below (wr.heap.size + 2) ((wr.alloc (.cells #[.string x.1, .string x.2] 38)).alloc (.cells #[.string x.1, .string x.2] 38)) w3 → Below w1.heap.size w1 w3 := fun w3 h => (hbe2.alloc (by have := hbe2.size; omega) _).trans (h.mono (by have := hbe.size; simp; omega))
        have HREL := Lib.hid hrel2
        have hz2 : m + Nd.esz x ≤ 1000000000 := by omega
        have HZ : Hid (Nd.esz x = Nd.esz l[k]) := Lib.hid (by rw [HX.out])
        clear hcall hrel2 hes HONE h2
        generalize Nd.esz x = z at *
        by_cases s1 : 0 < k
        · have d1 : decide (0 < (k : Int)) = true := by simp; omega
          have s2 : ¬ all ≤ 2 * m := fun h => hstop ⟨s1, .inl h⟩
          have s3 : ¬ k + 1 = l.length := fun h => hstop ⟨s1, .inr h⟩
          have d2 : decide ((all : Int) ≤ 2 * m) = false := by simp; omega
          have d3 : ((k : Int) == l.length - 1) = false := by rw [beq_eq_false_iff_ne]; omega
          clear s2 s3 hstop
          go_wp2_with fail
          refine HCALL.out.mono ?_
          rintro e w3 ⟨rfl, b3⟩
          have hb4 := HREL.out w3 b3
          clear b3
          go_wp2
          go_roundw
          case rel => exact ⟨k + 1, m + z, by omega, by go_num, by go_num, Lib.hid (by rw [H1.out, ← HM.out, HZ.out]), Lib.hid (by rw [HH.out, HC.out, HZ.out]), hb4⟩
          case measure => simp [intOf]; omega
        · have d1 : decide (0 < (k : Int)) = false := by simp; omega
          obtain rfl : k = 0 := by omega
          simp only [Nat.zero_mul, Nat.add_zero] at g0 g1
          clear s1 hstop
          go_wp2_with fail
          refine HCALL.out.mono ?_
          rintro e w3 ⟨rfl, b3⟩
          have hb4 := HREL.out w3 b3
          clear b3
          go_wp2
          go_roundw
          case rel => exact ⟨0 + 1, m + z, by omega, by go_num, by go_num, Lib.hid (by rw [H1.out, ← HM.out, HZ.out]), Lib.hid (by rw [HH.out, HC.out, HZ.out]), hb4⟩
          case measure => simp [intOf]; omega
    · obtain rfl : k = l.length := by omega
      go_wp2
      go_ret
      refine ⟨?_, b1.trans (hbe.mono b1.size)⟩
      rw [HO.out, HH.out, List.drop_of_length_le (Nat.le_refl _)]; rfl
end Go.Proofs.YtpfplojkiloldaaGreatDoor
namespace Nd
open En
def rtext (r : Cp.Rd) : List UInt8 × Cp.Rd := (r.int 1).2.bytes ((r.int 1).1 : Nat)
def str (l : List UInt8) : Str := ⟨l.toArray⟩
theorem str_list (s : Str) : str s.data.toList = s := by unfold str; apply ByteArray.ext; simp
def more (r : Cp.Rd) : Prop := 0 < r.rest.length ∧ r.err = 0
instance (r : Cp.Rd) : Decidable (more r) := by unfold more; infer_instance
def okEnd (r : Cp.Rd) : Bool := r.rest.isEmpty && r.err == 0
def dloop : Nat → Cp.Rd → List Ent → Cp.Rd × List Ent
  | 0, r, l => (r, l)
  | f + 1, r, l => if more r then dloop f (rtext (rtext r).2).2 (l ++ [(str (rtext r).1, str (rtext (rtext r).2).1)]) else (r, l)
def edec (s : List UInt8) : Option (List Ent) :=
  if okEnd (dloop (s.length + 1) ⟨s, 0⟩ []).1 && En.right (dloop (s.length + 1) ⟨s, 0⟩ []).2 then some (dloop (s.length + 1) ⟨s, 0⟩ []).2 else none
theorem bytes_err {r : Cp.Rd} (n : Int) (h : r.err ≠ 0) : r.bytes n = ([], r) := by
  unfold Cp.Rd.bytes Cp.Rd.fail
  simp [h]
theorem bytes_fit {r : Cp.Rd} (n : Int) (h : (r.bytes n).2.err = 0) : (r.bytes n).2.rest = r.rest.drop n.toNat ∧ n ≤ r.rest.length ∧ 0 ≤ n := by
  unfold Cp.Rd.bytes Cp.Rd.fail at *
  by_cases h1 : n < 0
  · simp only [if_pos h1] at h
    by_cases h2 : r.err = 0
    · simp [h2] at h
    · simp [h2] at h
  · by_cases h3 : (r.rest.length : Int) < n
    · simp only [if_neg h1, if_pos h3] at h
      by_cases h2 : r.err = 0
      · simp [h2] at h
      · simp [h2] at h
    · simp only [if_neg h1, if_neg h3] at h ⊢
      by_cases h2 : r.err = 0
      · simp only [if_pos h2]; exact ⟨trivial, by omega, by omega⟩
      · simp [h2] at h
def mu (r : Cp.Rd) : Nat := if r.err = 0 then r.rest.length + 1 else 0
theorem rtext_mu {r : Cp.Rd} (h : r.err = 0) : mu (rtext r).2 < mu r := by
  unfold mu
  rw [if_pos h]
  split
  · rename_i h2
    unfold rtext at h2 ⊢
    have h3 := bytes_fit _ h2
    have h4 : (r.int 1).2.err = 0 := by
      refine Classical.byContradiction fun hn => ?_
      rw [bytes_err _ hn] at h2
      exact hn h2
    have h5 := bytes_fit (r := r) (1 : Nat) h4
    rw [h3.1, List.length_drop]
    have h6 : ((r.int 1).2.rest).length = r.rest.length - 1 := by
      show ((r.bytes (1 : Nat)).2.rest).length = _
      rw [h5.1, List.length_drop]; rfl
    rw [h6]
    have := h5.2.1
    omega
  · omega
theorem rtext_mu_le (r : Cp.Rd) : mu (rtext r).2 ≤ mu r := by
  by_cases h : r.err = 0
  · exact Nat.le_of_lt (rtext_mu h)
  · have e : (r.int 1).2 = r := by show (r.bytes _).2 = r; rw [bytes_err _ h]
    unfold rtext
    rw [e, bytes_err _ h]
    exact Nat.le_refl _
theorem dloop_end {f : Nat} {r : Cp.Rd} {l : List Ent} (h : ¬ more r) : dloop f r l = (r, l) := by
  cases f with
  | zero => rfl
  | succ f => rw [dloop, if_neg h]
theorem num_text (s : Str) (hs : s.size ≤ 255) : Cp.num [UInt8.ofNat s.size] = s.size := by
  have e : Cp.num [UInt8.ofNat s.size] = (UInt8.ofNat s.size).toNat := by simp [Cp.num]
  rw [e, UInt8.toNat_ofNat']
  omega
theorem rtext_app (s : Str) (hs : s.size ≤ 255) (tl : List UInt8) : rtext ⟨text s ++ tl, 0⟩ = (s.data.toList, ⟨tl, 0⟩) := by
  have e1 : Cp.Rd.int ⟨text s ++ tl, 0⟩ 1 = (s.size, ⟨s.data.toList ++ tl, 0⟩) := by
    unfold text
    rw [Cp.int_ok rfl (by simp)]
    simp only [List.cons_append, List.take_succ_cons, List.take_zero, List.drop_succ_cons, List.drop_zero]
    rw [num_text s hs]
  unfold rtext
  rw [e1]
  have hl : s.data.toList.length = s.size := by rw [Array.length_toList, ByteArray.size_data]
  simp only
  rw [Cp.bytes_ok rfl (by simp)]
  simp only
  rw [List.take_left' hl, List.drop_left' hl]
theorem may_size {x : Ent} (h : may x.1 x.2 = true) : 0 < x.1.size ∧ x.1.size ≤ 255 ∧ x.2.size ≤ 255 := by
  unfold may at h
  simp only [Bool.and_eq_true, decide_eq_true_eq] at h
  omega
theorem dloop_enc : ∀ (l : List Ent) (f : Nat) (acc : List Ent), (∀ x ∈ l, may x.1 x.2 = true) → l.length ≤ f → dloop f ⟨eenc l, 0⟩ acc = (⟨[], 0⟩, acc ++ l)
  | [], f, acc, _, _ => by rw [dloop_end (by unfold more eenc; simp)]; simp [eenc]
  | x :: l, 0, acc, _, h => by simp at h
  | x :: l, f + 1, acc, hm, h => by
    have hx := may_size (hm x List.mem_cons_self)
    have e : eenc (x :: l) = text x.1 ++ (text x.2 ++ eenc l) := by unfold eenc enc1; rw [List.flatMap_cons, List.append_assoc]
    have hmore : more ⟨eenc (x :: l), 0⟩ := ⟨by show 0 < (eenc (x :: l)).length; rw [e, List.length_append, text_length]; omega, rfl⟩
    rw [dloop, if_pos hmore, e, rtext_app _ hx.2.1]
    simp only
    rw [rtext_app _ hx.2.2]
    simp only
    rw [dloop_enc l f _ (fun y hy => hm y (List.mem_cons_of_mem _ hy)) (by simp at h; omega), str_list, str_list, List.append_assoc]
    rfl
theorem edec_enc {l : List Ent} (h : En.right l = true) : edec (eenc l) = some l := by
  have hm := ((En.right_iff l).1 h).1
  have hl : l.length ≤ (eenc l).length + 1 := by rw [eenc_length]; have := esize_len l; omega
  unfold edec
  rw [dloop_enc l _ [] hm hl]
  simp [okEnd, h]
theorem int4_app (i : Int) (h1 : 2 ≤ i) (h2 : i ≤ 4294967295) (tl : List UInt8) : Cp.Rd.int ⟨Cp.be 4 i.toNat ++ tl, 0⟩ 4 = (i.toNat, ⟨tl, 0⟩) := by
  have hl : (Cp.be 4 i.toNat).length = 4 := Cp.be_length _ _
  rw [Cp.int_ok rfl (by show 4 ≤ (Cp.be 4 i.toNat ++ tl).length; rw [List.length_append]; omega)]
  show (Cp.num ((Cp.be 4 i.toNat ++ tl).take 4), (⟨(Cp.be 4 i.toNat ++ tl).drop 4, 0⟩ : Cp.Rd)) = _
  rw [List.take_left' hl, List.drop_left' hl, Cp.num_be_lt (by omega)]
end Nd
namespace Go.Proofs.YtpfplojkiloldaaGreatDoor
open Go.RowKit Go.Shelf
def encS (l : List Ent) : List UInt8 := if En.right l then Nd.eenc l else []
theorem str_app (a b : List UInt8) : Nd.str a ++ Nd.str b = Nd.str (a ++ b) := by unfold Nd.str; apply ByteArray.ext; simp
theorem eenc_take_succ (l : List Ent) (k : Nat) (hk : k < l.length) : Nd.eenc (l.take (k + 1)) = Nd.eenc (l.take k) ++ (Nd.text l[k].1 ++ Nd.text l[k].2) := by
  rw [List.take_succ_eq_append_getElem hk]
  unfold Nd.eenc
  rw [List.flatMap_append]
  simp [Nd.enc1]
theorem str_size (l : List UInt8) : (Nd.str l).size = l.length := by unfold Nd.str; rfl
theorem textN_any (s : ByteArray) (hs : s.size ≤ 255) (w : World) : Calls Tryz.prog 60 #[.string s] w fun e w' => e = .returned (.tuple #[.string (Nd.str (Nd.text s)), .int .i64 0]) ∧ Below w.heap.size w w' := textx_any s hs w
set_option maxRecDepth 100000 in
set_option maxHeartbeats 1000000 in
theorem eencode_any (A : Option Addr) (c : Nat) (l : List Ent) (w : World) (hr : LS entE w w.heap.size A l) (hl : l.length ≤ 100000) :
    Calls Tryz.prog 58 #[.slice A l.length c] w fun e w' => e = .returned (.tuple #[.string (Nd.str (encS l)), .int .i64 (encErr (En.right l))]) ∧ Below w.heap.size w w' := by
  have hR := hid_calls (right_any A c l w hr (by omega))
  cases hrt : En.right l with
  | false =>
    rw [hrt] at hR
    have he : Nd.str (encS l) = ⟨#[]⟩ := by unfold encS; rw [hrt]; rfl
    rw [he]
    clear hrt he
    go_enter Tryz.func58, Tryz.ntmps58
    go_wp2_with fail
    refine hR.out.mono ?_
    rintro e w1 ⟨rfl, b1⟩
    go_wp2
    go_ret2
    exact ⟨rfl, b1⟩
  | true =>
    rw [hrt] at hR
    have he : Nd.str (encS l) = Nd.str (Nd.eenc l) := by unfold encS; rw [hrt]; rfl
    rw [he]
    obtain ⟨R, hRR⟩ : ∃ R, R = Nd.str (Nd.eenc l) := ⟨_, rfl⟩
    rw [← hRR]
    have HRR := Lib.hid hRR
    have hmay := ((En.right_iff l).1 hrt).1
    have HM := Lib.hid hmay
    clear hrt hmay he hRR
    go_enter Tryz.func58, Tryz.ntmps58
    go_wp2_with fail
    refine hR.out.mono ?_
    rintro e w1 ⟨rfl, b1⟩
    have hr1 := hr.up b1
    clear hR
    go_wp2
    go_loopw [4, 16] (fun s i wr => ∃ (k : Nat) (S : ByteArray), k ≤ l.length ∧ i = .int .i64 k ∧ s = .string S ∧ Hid (S = Nd.str (Nd.eenc (l.take k))) ∧ S.size ≤ 100 * k ∧ Below w1.heap.size w1 wr) (fun _ i _ => l.length - (intOf i).toNat)
    case atStart => exact ⟨0, ⟨#[]⟩, by omega, rfl, rfl, Lib.hid rfl, by simp [ByteArray.size], Below.refl _ _⟩
    case round =>
      obtain ⟨k, S, hk, rfl, rfl, HSV, hS, hbe⟩ := hrel
      by_cases hlt : k < l.length
      · obtain ⟨b2, o2, rfl, hb2, g0, g1⟩ := (hr1.below hbe).ent hlt
        have hm := HM.out _ (List.getElem_mem hlt)
        have htk := Lib.hid (eenc_take_succ l k hlt)
        obtain ⟨x, hx⟩ : ∃ x, x = l[k] := ⟨_, rfl⟩
        rw [← hx] at g0 g1 hm
        have HX := Lib.hid hx
        clear hx
        unfold En.may at hm
        simp only [Bool.and_eq_true, decide_eq_true_eq] at hm
        obtain ⟨⟨m1, m2⟩, m3⟩ := hm
        have hSx : Hid (S ++ (Nd.str (Nd.text x.1) ++ Nd.str (Nd.text x.2)) = Nd.str (Nd.eenc (l.take (k + 1)))) := Lib.hid (by rw [htk.out, HSV.out, str_app, str_app, ← HX.out])
        have z1 : (Nd.str (Nd.text x.1)).size ≤ 17 := by rw [str_size, Nd.text_length]; omega
        have z2 : (Nd.str (Nd.text x.2)).size ≤ 41 := by rw [str_size, Nd.text_length]; omega
        have t1 := fun W => hid_calls (textN_any x.1 (by omega) W)
        have t2 := fun W => hid_calls (textN_any x.2 (by omega) W)
        generalize Nd.str (Nd.text x.1) = S1 at *
        generalize Nd.str (Nd.text x.2) = S2 at *
        have hb2' : b2 < wr.heap.size := by have := hbe.size; omega
        go_wp2_with fail
        refine (t1 _).out.mono ?_
        rintro e w2 ⟨rfl, hb3⟩
        have hbx := Blk.new wr 38 #[.string x.1, .string x.2]
        have hby := hbx.below hb3 hbx.lt
        have y1 := hby.cell 1
        have hly := hby.lt
        have hbe2 := (hbe.alloc hbe.size (.cells #[.string x.1, .string x.2] 38)).trans (hb3.mono (by have := hbe.size; simp; omega))
        clear hbx hby hb3
        go_wp2_with fail
        refine (t2 _).out.mono ?_
        rintro e w3 ⟨rfl, hb3⟩
        have hbe3 := hbe2.trans (hb3.mono hbe2.size)
        clear hb3
        have hsz : (S.size : Int) + ((S1.size : Int) + S2.size) ≤ 1000000000 := by omega
        have hsz2 : (S1.size : Int) + S2.size ≤ 1000000000 := by omega
        go_wp2
        go_roundw
        case rel => exact ⟨k + 1, _, by omega, by go_num, rfl, hSx, by rw [ByteArray.size_append, ByteArray.size_append]; omega, hbe3⟩
        case measure => simp [intOf]; omega
      · obtain rfl : k = l.length := by omega
        go_wp2
        go_ret2
        refine ⟨?_, b1.trans (hbe.mono b1.size)⟩
        have hs : S = R := by rw [HSV.out, HRR.out, List.take_length]
        rw [hs]; rfl
set_option maxRecDepth 100000 in
theorem rdtext_any (g : Nat) (r : Cp.Rd) (w : World) (h : Blk w g 223 (rdCells r)) :
    Calls Tryz.prog 126 #[.pointer (some ⟨g, 0, none⟩)] w fun e w' => e = .returned (.string (Nd.str (Nd.rtext r).1)) ∧ Blk w' g 223 (rdCells (Nd.rtext r).2) ∧ w.grownBy w' (some g) := by
  have hi := int_any g r 1 w h (.inl rfl)
  have hb := fun W (hW : Blk W g 223 (rdCells (r.int 1).2)) => bytes_any g (r.int 1).2 ((r.int 1).1 : Nat) W hW
  have e1 : (Cp.Rd.bytes (r.int 1).2 ((r.int 1).1 : Nat)) = Nd.rtext r := rfl
  rw [e1] at hb
  change ∀ W, _ → Calls Tryz.prog _ _ W (fun e w' => e = .returned (.string (Nd.str (Nd.rtext r).1)) ∧ _) at hb
  generalize Nd.rtext r = o at *
  obtain ⟨o1, o2⟩ := o
  simp only at hb ⊢
  generalize Nd.str o1 = S at *
  generalize (r.int 1).1 = n at *
  generalize (r.int 1).2 = r1 at *
  have HI := Lib.hid hi
  have HB := Lib.hid hb
  clear hi hb e1
  go_enter Tryz.func126, Tryz.ntmps126
  go_wp2_with fail
  refine Calls.mono HI.out ?_
  rintro e w1 ⟨rfl, hB1, hg1⟩
  go_wp2_with fail
  refine Calls.mono (HB.out w1 hB1) ?_
  rintro e w2 ⟨rfl, hB2, hg2⟩
  go_wp2
  go_ret
  exact ⟨rfl, hB2, hg1.trans hg2⟩
theorem rdleft_any (g : Nat) (r : Cp.Rd) (w : World) (h : Blk w g 223 (rdCells r)) : Calls Tryz.prog 124 #[.pointer (some ⟨g, 0, none⟩)] w fun e w' => e = .returned (.int .i64 r.rest.length) ∧ w' = w := by
  have h0 := h.cell 0
  simp only [rdCells] at h0
  go_enter Tryz.func124, Tryz.ntmps124
  go_wp2
  go_ret
  exact ⟨rfl, rfl⟩
end Go.Proofs.YtpfplojkiloldaaGreatDoor
namespace Go.Proofs.YtpfplojkiloldaaGreatDoor
open Go.RowKit Go.Shelf
theorem str_ne (s : List UInt8) : ((Nd.str s).toList.isEmpty) = s.isEmpty := by
  rw [size_empty, str_size]; cases s <;> simp
set_option maxRecDepth 100000 in
theorem rdend_any (g : Nat) (r : Cp.Rd) (w : World) (h : Blk w g 223 (rdCells r)) : Calls Tryz.prog 127 #[.pointer (some ⟨g, 0, none⟩)] w fun e w' => ∃ x : Int, e = .returned (.int .i64 x) ∧ (x == 0) = Nd.okEnd r ∧ Below w.heap.size w w' := by
  have h0 := h.cell 0
  have h1 := h.cell 1
  have hl := h.lt
  simp only [rdCells] at h0 h1
  have hse := str_ne r.rest
  unfold Nd.str at hse
  by_cases he : r.rest = []
  · have e1 : (⟨r.rest.toArray⟩ : ByteArray) = ⟨#[]⟩ := by rw [he]
    rw [e1] at h0
    have hok : (r.err == 0) = Nd.okEnd r := by unfold Nd.okEnd; rw [he]; simp
    have HOK := Lib.hid hok
    clear hse hok he e1
    go_enter Tryz.func127, Tryz.ntmps127
    go_wp2
    go_ret
    exact ⟨_, rfl, HOK.out, Below.refl _ _⟩
  · have hne : (⟨r.rest.toArray⟩ : ByteArray).toList.isEmpty = false := by rw [hse]; cases hr : r.rest with
      | nil => exact absurd hr he
      | cons a b => rfl
    have hok : Nd.okEnd r = false := by unfold Nd.okEnd; cases hr : r.rest with
      | nil => exact absurd hr he
      | cons a b => rfl
    have hf := fun W (hW : Blk W w.heap.size 223 (rdCells ⟨[], r.err⟩)) => fail_any w.heap.size ⟨[], r.err⟩ 11 W hW
    have hx : ((Cp.Rd.fail ⟨[], r.err⟩ 11).err == 0) = false := by unfold Cp.Rd.fail; split <;> simp_all
    have HX := Lib.hid hx
    have HOK := Lib.hid hok
    have HF := Lib.hid hf
    generalize (⟨r.rest.toArray⟩ : ByteArray) = S at *
    clear hse hok he hf hx
    go_enter Tryz.func127, Tryz.ntmps127
    go_wp2_with fail
    refine Calls.mono (HF.out _ (Blk.new w 223 (rdCells ⟨[], r.err⟩))) ?_
    rintro e w1 ⟨rfl, hB, hg⟩
    have c1 := hB.cell 1
    have hl1 := hB.lt
    have hb1 : Below w.heap.size w w1 := ((Below.refl _ _).alloc (Nat.le_refl _) _).grown hg (by simp) (fun k e => by cases e; exact Nat.le_refl _)
    simp only [rdCells] at c1
    generalize (Cp.Rd.fail ⟨[], r.err⟩ 11).err = x at *
    clear hB hg
    go_wp2
    go_ret
    exact ⟨_, rfl, by rw [HX.out, HOK.out], hb1⟩
def sliceLen : Value → Nat
  | .slice _ n _ => n
  | _ => 0
def edl (o : Option (List Ent)) : List Ent := o.getD []
def edx (o : Option (List Ent)) : Int := if o.isSome then 0 else 3
def EDec (l : List Ent) (x : Int) (w : World) (e : Ending) (w' : World) : Prop :=
  ∃ A c, e = .returned (.tuple #[.slice A l.length c, .int .i64 x]) ∧ LO entE 38 w' w.heap.size (.slice A l.length c) l ∧ Below w.heap.size w w'
theorem sv_nil {α : Type} {E : Enc α} (w : World) : SV E w none 0 [] := ⟨LS.nil_, by simp, fun _ => rfl⟩
set_option maxRecDepth 100000 in
set_option maxHeartbeats 1000000 in
theorem edecode_any (s : List UInt8) (w : World) (hs : s.length ≤ 50000) :
    Calls Tryz.prog 121 #[.string (Nd.str s)] w (EDec (edl (Nd.edec s)) (edx (Nd.edec s)) w) := by
  obtain ⟨ol, hol⟩ : ∃ o, o = edl (Nd.edec s) := ⟨_, rfl⟩
  obtain ⟨ox, hox⟩ : ∃ o, o = edx (Nd.edec s) := ⟨_, rfl⟩
  rw [← hol, ← hox]
  have HOL := Lib.hid hol
  have HOX := Lib.hid hox
  clear hol hox
  go_enter Tryz.func121, Tryz.ntmps121
  go_wp2_with fail
  refine (read_any s _).mono ?_
  rintro e w1 ⟨rfl, hw1⟩
  have hB0 : Blk w1 w.heap.size 223 (rdCells ⟨s, 0⟩) := by rw [hw1]; exact Blk.new _ _ _
  have hb0 : Below w.heap.size w w1 := by rw [hw1]; exact (Below.refl _ _).alloc (Nat.le_refl _) _
  clear hw1
  have hz1 : w.heap.size < w1.heap.size := hB0.lt
  go_wp2
  go_loopw [5] (fun v wr => ∃ (f : Nat) (r : Cp.Rd) (l : List Ent), Hid (Nd.dloop (s.length + 1) ⟨s, 0⟩ [] = Nd.dloop f r l) ∧ f + l.length = s.length + 1 ∧ Nd.mu r ≤ f ∧ LO entE 38 wr w1.heap.size v l ∧ Blk wr w.heap.size 223 (rdCells r) ∧ Below w.heap.size w wr ∧ w1.heap.size ≤ wr.heap.size) (fun v _ => s.length + 1 - sliceLen v)
  case atStart => exact ⟨s.length + 1, ⟨s, 0⟩, [], Lib.hid rfl, by simp, by unfold Nd.mu; simp, LO.nil_ _ _, hB0, hb0, Nat.le_refl _⟩
  case round =>
    obtain ⟨f, r, l, HD, hf, hmu, hown, hB, hb, hz⟩ := hrel
    obtain ⟨A, c, rfl⟩ := hown.form
    have hle : l.length ≤ 50001 := by omega
    have HL := hid_calls (rdleft_any w.heap.size r wr hB)
    have HE := hid_calls (err_any w.heap.size r wr hB)
    have hlt0 := hB.lt
    by_cases hm : Nd.more r
    · obtain ⟨m1, m2⟩ := hm
      have hmu2 := Nd.rtext_mu m2
      have hmu3 := Nd.rtext_mu_le (Nd.rtext r).2
      obtain ⟨f, rfl⟩ : ∃ f', f = f' + 1 := ⟨f - 1, by omega⟩
      have hd : Nd.dloop (f + 1) r l = Nd.dloop f (Nd.rtext (Nd.rtext r).2).2 (l ++ [(Nd.str (Nd.rtext r).1, Nd.str (Nd.rtext (Nd.rtext r).2).1)]) := by rw [Nd.dloop, if_pos ⟨m1, m2⟩]
      rw [m2] at HE
      have HT1 := Lib.hid (fun W h => rdtext_any w.heap.size r W h)
      have HT2 := Lib.hid (fun W h => rdtext_any w.heap.size (Nd.rtext r).2 W h)
      have hmu4 : Nd.mu (Nd.rtext (Nd.rtext r).2).2 ≤ f := by omega
      clear hmu hmu2 hmu3
      generalize Nd.str (Nd.rtext r).1 = S1 at *
      generalize (Nd.rtext r).2 = r1 at *
      generalize Nd.str (Nd.rtext r1).1 = S2 at *
      generalize (Nd.rtext r1).2 = r2 at *
      have HDD := Lib.hid hd
      have HM := Lib.hid hmu4
      clear hd hmu4 m2
      generalize r.rest.length = n at *
      go_wp2_with fail
      refine HL.out.mono ?_
      rintro e _ ⟨rfl, rfl⟩
      go_wp2_with fail
      refine HE.out.mono ?_
      rintro e _ ⟨rfl, rfl⟩
      go_wp2_with fail
      refine (HT1.out _ hB).mono ?_
      rintro e w4 ⟨rfl, hB4, hg4⟩
      go_wp2_with fail
      refine (HT2.out _ hB4).mono ?_
      rintro e w5 ⟨rfl, hB5, hg5⟩
      have hg45 := hg4.trans hg5
      have hne : (Value.slice A l.length c).ownBlock ≠ some w.heap.size := fun e => by have := (World.ownsRow.lt hown _ e).1; omega
      have hown5 : w5.ownsRow w1.heap.size 38 2 (.slice A l.length c) l.length (entE.cells l) := World.ownsRow.kept hown hg45 (.inr hne)
      have hz5 : w1.heap.size ≤ w5.heap.size := Nat.le_trans hz hg45.size
      have hb5 : Below w.heap.size w w5 := hb.grown hg45 hb.size (fun k e => by cases e; exact Nat.le_refl _)
      go_wp2_with (at_builtin; refine wpList_app1 rfl _ _ 32 rfl eiEnt Tryz.underlying32 rfl (by decide) rfl hown5 rfl (by simp) rfl (by simp [Value.oneCell']) (by unfold maxLen; omega) (by omega) hz5 ?_; intro v' w6 hown' hgrow hbel _ _)
      have hsn := LO.snoc (E := entE) (x := (S1, S2)) rfl rfl rfl hown'
      obtain ⟨A2, c2, rfl⟩ := hsn.form
      go_roundw
      case rel => exact ⟨f, r2, _, Lib.hid (HD.out.trans HDD.out), by simp; omega, HM.out, hsn, hB5.below hbel hz1, hb5.trans (hbel.mono (by omega)), Nat.le_trans hz5 hbel.size⟩
      case measure => simp [sliceLen]; omega
    · have hd := Nd.dloop_end (f := f) (l := l) hm
      have HEND := hid_calls (rdend_any w.heap.size r wr hB)
      have hsl := hown.ls
      have hsv := LO.lower hown (Nat.le_of_lt hz1)
      have HR := Lib.hid (fun W h => right_any A c l W h (by omega))
      have hdec : Nd.edec s = if Nd.okEnd r && En.right l then some l else none := by unfold Nd.edec; rw [HD.out, hd]
      have HDEC := Lib.hid hdec
      clear hd hdec
      have hcase : (r.rest.length = 0) ∨ (0 < r.rest.length ∧ (r.err == 0) = false) := by
        by_cases h0 : r.rest.length = 0
        · exact .inl h0
        · exact .inr ⟨by omega, by rw [beq_eq_false_iff_ne]; exact fun h1 => hm ⟨by omega, h1⟩⟩
      clear hm hmu
      cases hok : Nd.okEnd r with
      | false =>
        have he1 : Hid (ol = []) := Lib.hid (by rw [HOL.out, HDEC.out, hok, Bool.false_and]; rfl)
        have he2 : Hid (ox = 3) := Lib.hid (by rw [HOX.out, HDEC.out, hok, Bool.false_and]; rfl)
        rcases hcase with h0 | ⟨h0, h1⟩
        · rw [h0] at HL
          go_wp2_with fail
          refine HL.out.mono ?_
          rintro e _ ⟨rfl, rfl⟩
          go_wp2_with fail
          refine HEND.out.mono ?_
          rintro e w3 ⟨x, rfl, hx, hb3⟩
          rw [hok] at hx
          have hx2 : ¬ x = 0 := by simpa using hx
          have hx3 : (x != 0) = true := by simpa using hx
          clear hx
          go_wp2
          go_ret2
          rw [he1.out, he2.out]
          exact ⟨none, 0, rfl, LO.nil_ _ _, hb.trans (hb3.mono hb.size)⟩
        · generalize r.rest.length = n at *
          go_wp2_with fail
          refine HL.out.mono ?_
          rintro e _ ⟨rfl, rfl⟩
          go_wp2_with fail
          refine HE.out.mono ?_
          rintro e _ ⟨rfl, rfl⟩
          go_wp2_with fail
          refine HEND.out.mono ?_
          rintro e w3 ⟨x, rfl, hx, hb3⟩
          rw [hok] at hx
          have hx2 : ¬ x = 0 := by simpa using hx
          have hx3 : (x != 0) = true := by simpa using hx
          clear hx
          go_wp2
          go_ret2
          rw [he1.out, he2.out]
          exact ⟨none, 0, rfl, LO.nil_ _ _, hb.trans (hb3.mono hb.size)⟩
      | true =>
        cases hrt : En.right l with
        | false =>
          have he1 : Hid (ol = []) := Lib.hid (by rw [HOL.out, HDEC.out, hok, hrt]; rfl)
          have he2 : Hid (ox = 3) := Lib.hid (by rw [HOX.out, HDEC.out, hok, hrt]; rfl)
          rcases hcase with h0 | ⟨h0, h1⟩
          · rw [h0] at HL
            go_wp2_with fail
            refine HL.out.mono ?_
            rintro e _ ⟨rfl, rfl⟩
            go_wp2_with fail
            refine HEND.out.mono ?_
            rintro e w3 ⟨x, rfl, hx, hb3⟩
            rw [hok] at hx
            obtain rfl : x = 0 := by simpa using hx
            have hbr := hb.trans (hb3.mono hb.size)
            have hr3 := hsl.up hb3
            have hsv3 := hsv.below hb3
            have HR3 := HR.out w3 hr3
            rw [hrt] at HR3
            have HR4 := Lib.hid HR3
            clear HR3
            go_wp2_with fail
            refine Calls.mono HR4.out ?_
            rintro e w4 ⟨rfl, hb4⟩
            go_wp2
            go_ret2
            rw [he1.out, he2.out]
            exact ⟨none, 0, rfl, LO.nil_ _ _, hbr.trans (hb4.mono hbr.size)⟩
          · generalize r.rest.length = n at *
            go_wp2_with fail
            refine HL.out.mono ?_
            rintro e _ ⟨rfl, rfl⟩
            go_wp2_with fail
            refine HE.out.mono ?_
            rintro e _ ⟨rfl, rfl⟩
            go_wp2_with fail
            refine HEND.out.mono ?_
            rintro e w3 ⟨x, rfl, hx, hb3⟩
            rw [hok] at hx
            obtain rfl : x = 0 := by simpa using hx
            have hbr := hb.trans (hb3.mono hb.size)
            have hr3 := hsl.up hb3
            have hsv3 := hsv.below hb3
            have HR3 := HR.out w3 hr3
            rw [hrt] at HR3
            have HR4 := Lib.hid HR3
            clear HR3
            go_wp2_with fail
            refine Calls.mono HR4.out ?_
            rintro e w4 ⟨rfl, hb4⟩
            go_wp2
            go_ret2
            rw [he1.out, he2.out]
            exact ⟨none, 0, rfl, LO.nil_ _ _, hbr.trans (hb4.mono hbr.size)⟩
        | true =>
          have he1 : Hid (ol = l) := Lib.hid (by rw [HOL.out, HDEC.out, hok, hrt]; rfl)
          have he2 : Hid (ox = 0) := Lib.hid (by rw [HOX.out, HDEC.out, hok, hrt]; rfl)
          rcases hcase with h0 | ⟨h0, h1⟩
          · rw [h0] at HL
            go_wp2_with fail
            refine HL.out.mono ?_
            rintro e _ ⟨rfl, rfl⟩
            go_wp2_with fail
            refine HEND.out.mono ?_
            rintro e w3 ⟨x, rfl, hx, hb3⟩
            rw [hok] at hx
            obtain rfl : x = 0 := by simpa using hx
            have hbr := hb.trans (hb3.mono hb.size)
            have hr3 := hsl.up hb3
            have hsv3 := hsv.below hb3
            have HR3 := HR.out w3 hr3
            rw [hrt] at HR3
            have HR4 := Lib.hid HR3
            clear HR3
            go_wp2_with fail
            refine Calls.mono HR4.out ?_
            rintro e w4 ⟨rfl, hb4⟩
            go_wp2
            go_ret2
            rw [he1.out, he2.out]
            exact ⟨A, c, rfl, hsv3.below hb4, hbr.trans (hb4.mono hbr.size)⟩
          · generalize r.rest.length = n at *
            go_wp2_with fail
            refine HL.out.mono ?_
            rintro e _ ⟨rfl, rfl⟩
            go_wp2_with fail
            refine HE.out.mono ?_
            rintro e _ ⟨rfl, rfl⟩
            go_wp2_with fail
            refine HEND.out.mono ?_
            rintro e w3 ⟨x, rfl, hx, hb3⟩
            rw [hok] at hx
            obtain rfl : x = 0 := by simpa using hx
            have hbr := hb.trans (hb3.mono hb.size)
            have hr3 := hsl.up hb3
            have hsv3 := hsv.below hb3
            have HR3 := HR.out w3 hr3
            rw [hrt] at HR3
            have HR4 := Lib.hid HR3
            clear HR3
            go_wp2_with fail
            refine Calls.mono HR4.out ?_
            rintro e w4 ⟨rfl, hb4⟩
            go_wp2
            go_ret2
            rw [he1.out, he2.out]
            exact ⟨A, c, rfl, hsv3.below hb4, hbr.trans (hb4.mono hbr.size)⟩
end Go.Proofs.YtpfplojkiloldaaGreatDoor
