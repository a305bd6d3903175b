/- A range over an iterator that turns memory of its own: the law. What the round keeps (Kp), what the iterator may do between rounds (Ab), what it says of what it yields (G), how it ends (S, Sp): all speak of worlds. A region that draws its order, inside a round: by an invariant over what has been done. What chain.Read meets, as data. The walk of chain.links and of its closure, inside a fence. chain.Read's region that appends the runs and the number of a page, in whatever order. What the operations of chain.Read's region do. The walk of chain.Read. -/
import Derived.Sort.LoopGhostIn
import Derived.Test.YtlgbcogdogpihaaGreatDoorQValues
import Derived.Test.YtlgbcogdogpihaaGreatDoorQGj
import Derived.Test.YtlgbcogdogpihaaGreatDoorQGl
namespace Go.Proofs.YtlgbcogdogpihaaGreatDoor
open Go.RowKit Go.Shelf
def SeqX {α : Type} (F : Fence) (n : Nat) (P : Program) (g : Nat) (lb : Array Value) (encs : α → Array Value) (Kp Ab : World → World → Prop) (G S Sp : List α → World → Prop) (N : Nat) (w : World) : Prop :=
  ∀ (l : Nat) (J Jx : List α → World → Prop) (W : World), Below w.heap.size w W → (∀ s A B, J s A → Ab A B → J s B) → (∀ s A B, Jx s A → Ab A B → Jx s B) →
    (∀ pre x W1, J pre W1 → pre.length < N → G (pre ++ [x]) W1 → YieldAt F (n - 1) P l (encs x) W1 fun e W' =>
      (e = .returned (.bool true) ∧ J (pre ++ [x]) W' ∧ Kp W1 W') ∨ (e = .returned (.bool false) ∧ Jx (pre ++ [x]) W' ∧ Kp W1 W')) →
    J [] W →
    CallsIn F n P g (#[.func (.yield l) #[] #[]] ++ lb) W fun e W' => (∃ v, e = .returned v) ∧ ((∃ xs, S xs W' ∧ J xs W') ∨ (∃ pre, Sp pre W' ∧ Jx pre W'))
def postX {α : Type} (B : Nat) (Kp : World → World → Prop) (I : List α → World → Prop) (Ix : Code → List α → World → Prop) (xs : List α) (W : World) : Exit → Act → World → Prop
  | .normal, _, W' => KeepsFrom B W W' ∧ Kp W W' ∧ I xs W'
  | .ret, _, W' => KeepsFrom B W W' ∧ Kp W W' ∧ Ix .ret xs W'
  | .exit id, _, W' => KeepsFrom B W W' ∧ Kp W W' ∧ Ix (.exit id) xs W'
  | .goto t, _, W' => KeepsFrom B W W' ∧ Kp W W' ∧ Ix (.goto t) xs W'
  | .panic _, _, _ => False
  | .outgrown, _, _ => False
/-- a turn of a block of book-keeping from B on -/
def PutOk {β : Type} (B : Nat) (S : β → World → Prop) : Prop := ∀ s W l o o', S s W → B ≤ l → W.heap[l]? = some o → o.isCells = false → o.isWalk = false → S s (W.putObj l o')
theorem OwnFrom.putOk {β : Type} {B : Nat} {S : β → World → Prop} (h : OwnFrom B S) : PutOk B S := fun _ _ _ _ o' hs hB hl ho _ => h.putObj o' hs hB hl ho
theorem wpIn_rangeFunc_X {F : Fence} {n : Nat} {P : Program} {w : World} {α : Type} {g : Operand} {ps : Array Tmp} {assign body : Code} {Q : Exit → Act → World → Prop} {a : Act}
    (hro : F.round = none) (h1 : 1 ≤ n) {gf : Nat} {lb : Array Value} (hg : a.eval g = .func (.func gf) #[] lb) (hFg : F.fn gf) (eg : ∀ args w, (callFunc gf args).run P w = .ok (.enter gf args) w)
    {encs : α → Array Value} {Kp Ab : World → World → Prop} {G S Sp : List α → World → Prop} {N : Nat} (hseq : SeqX F (n - 1) P gf lb encs Kp Ab G S Sp N w)
    (hKt : ∀ {A B C : World}, Kp A B → Kp B C → Kp A C) (hKb : ∀ (W : World) (l : Nat) (o o' : Obj), w.heap.size ≤ l → W.heap[l]? = some o → o.isCells = false → o.isWalk = false → Kp W (W.putObj l o'))
    (hAb : ∀ (A B : World) (k : Nat) (o : Obj), Ab A B → A.heap[k]? = some o → o.isCells = false → o.isWalk = false → B.heap[k]? = some o)
    (hps : ∀ x, (encs x).size = ps.size)
    (I : List α → World → Prop) (Ix : Code → List α → World → Prop) (hI : OwnFrom w.heap.size I) (hIx : ∀ c, OwnFrom w.heap.size (Ix c)) (hIA : ∀ s A B, I s A → Ab A B → I s B) (hIxA : ∀ c s A B, Ix c s A → Ab A B → Ix c s B)
    (hS : PutOk w.heap.size S) (hSp : PutOk w.heap.size Sp)
    (h0 : I [] w) (Ax : List α → Act → World → Prop) (hAx : ∀ a', OwnFrom w.heap.size (fun s W => Ax s a' W))
    (hassign : ∀ (l : Nat) (pre : List α) (x : α) (W : World) (K : Act → World → Prop), I pre W → G (pre ++ [x]) W → (∀ a' W', KeepsFrom w.heap.size W W' → Kp W W' → I pre W' → Ax (pre ++ [x]) a' W' → K a' W') →
      assign.wpIn (F.inRound l) (n - 1 - 1) P (Exit.then K (fun _ _ _ => False)) { tmps := (ps.zip (encs x)).foldl (fun t (p, v) => t.setIfInBounds p v) a.tmps, defers := [] } W)
    (hbody : ∀ (l : Nat) (pre : List α) (x : α) (a' : Act) (W : World), w.heap.size ≤ l → I pre W → Ax (pre ++ [x]) a' W → pre.length < N → body.wpIn (F.inRound l) (n - 1 - 1) P (postX w.heap.size Kp I Ix (pre ++ [x]) W) a' W)
    (hdone : ∀ (D : Nat) (xs : List α) (W : World), w.heap.size ≤ D → S xs W → I xs W → W.heap[D]? = some (.deferred (some [])) → Q .normal { a with defers := { target := .collected D, args := #[] } :: a.defers } W)
    (hstop : ∀ (D : Nat) (c : Code) (pre : List α) (W : World), w.heap.size ≤ D → Sp pre W → Ix c pre W → W.heap[D]? = some (.deferred (some [])) → c.wpIn F n P Q { a with defers := { target := .collected D, args := #[] } :: a.defers } W) :
    (Code.rangeFunc g ps assign body).wpIn F n P Q a w := by
  refine wpIn_rangeFunc ?_
  intro fn hfn
  rw [hro]
  obtain ⟨rec, hrec⟩ : ∃ rec : LoopState → Option Code → Loop, rec = fun st pe => { state := st, pending := pe, fn, tmps := a.tmps, params := ps, assign, body, defers := w.heap.size } := ⟨_, rfl⟩
  obtain ⟨W1, hW1⟩ : ∃ W1, (w.alloc (.deferred (some []))).alloc (.loop (rec .ready none)) = W1 := ⟨_, rfl⟩
  have hL1 : W1.heap[w.heap.size + 1]? = some (.loop (rec .ready none)) := by
    rw [← hW1]; have := World.alloc_heap_new (w.alloc (.deferred (some []))) (.loop (rec .ready none)); rwa [World.size_alloc] at this
  have hK1 : W1.heap[w.heap.size]? = some (.deferred (some [])) := by
    rw [← hW1]; exact (Below.heap_alloc _ _ _ (by simp)).trans (World.alloc_heap_new w _)
  have hI1 : I [] W1 := by rw [← hW1]; exact hI.alloc _ (hI.alloc _ h0)
  have hb1 : Below w.heap.size w W1 := by
    rw [← hW1]; exact ((Below.refl _ w).alloc (Nat.le_refl _) _).alloc (by simp) _
  refine ⟨w.heap.size + 1, [{ target := .collected w.heap.size, args := #[] }], W1, { target := .fn (.func gf) lb, args := #[.func (.yield (w.heap.size + 1)) #[] #[]] }, W1, gf,
    #[.func (.yield (w.heap.size + 1)) #[] #[]] ++ lb, W1, ?_, ?_, ?_, ?_, fun _ => h1, ?_⟩
  · rw [← hW1, hrec]; exact run_enterLoop_outer _ _ _ _ _
  · simp only [resolve, hg]
    simp [go_sem]
  · intro f' hf'; simp [Target.leads] at hf'; subst hf'; exact hFg
  · simp [invoke, go_sem, eg]
  · refine (hseq (w.heap.size + 1)
      (fun pre W => I pre W ∧ W.heap[w.heap.size + 1]? = some (.loop (rec .ready none)) ∧ W.heap[w.heap.size]? = some (.deferred (some [])))
      (fun pre W => ∃ c, Ix c pre W ∧ W.heap[w.heap.size + 1]? = some (.loop (rec .done (some c))) ∧ W.heap[w.heap.size]? = some (.deferred (some [])))
      W1 hb1
      (fun s A B hs hg' => ⟨hIA s A B hs.1 hg', hAb A B _ _ hg' hs.2.1 rfl rfl, hAb A B _ _ hg' hs.2.2 rfl rfl⟩)
      (fun s A B hs hg' => by
        obtain ⟨c, hc, hl, hk⟩ := hs
        exact ⟨c, hIxA c s A B hc hg', hAb A B _ _ hg' hl rfl rfl, hAb A B _ _ hg' hk rfl rfl⟩)
      ?_ ⟨hI1, hL1, hK1⟩).mono ?_
    · rintro pre x W ⟨hi, hl, hk⟩ hlen hG
      have hlt : w.heap.size + 1 < W.heap.size := (Array.getElem?_eq_some_iff.1 hl).1
      have hy := run_yield (P := P) (args := encs x) hl (by rw [hrec]; exact hps x)
      rw [hrec] at hy
      refine ⟨fn, _, assign, body, hy, roundIn_of_wpIn hfn (hassign _ pre x W _ hi hG ?_)⟩
      clear hy
      intro a' Wa hkfa hkpa hia hax
      replace hl := hkfa.same _ _ (by omega) hl rfl
      replace hk := hkfa.same _ _ (Nat.le_refl _) hk rfl
      replace hlt : w.heap.size + 1 < Wa.heap.size := (Array.getElem?_eq_some_iff.1 hl).1
      replace hi := hia
      clear hia hG
      revert hkpa hkfa
      generalize W = Wb
      intro hkfa hkpa
      obtain ⟨W, rfl⟩ : ∃ W, W = Wa := ⟨_, rfl⟩
      refine ⟨_, run_beginRound hl (by rw [hrec]), ?_⟩
      have hl2 : (W.putObj (w.heap.size + 1) (.loop { rec .ready none with state := .busy })).heap[w.heap.size + 1]? = some (.loop { rec .ready none with state := .busy }) := World.putObj_heap_same hlt
      have hk2 : (W.putObj (w.heap.size + 1) (.loop { rec .ready none with state := .busy })).heap[w.heap.size]? = some (.deferred (some [])) := (World.putObj_heap_other (by omega)).trans hk
      have hw2 : Kp W (W.putObj (w.heap.size + 1) (.loop { rec .ready none with state := .busy })) := hKb _ _ _ _ (by omega) hl rfl rfl
      refine wpIn_mono (hbody _ pre x a' _ (by omega) (hI.putObj _ hi (by omega) hl rfl) ((hAx a').putObj _ hax (by omega) hl rfl) hlen) ?_
      have fin : ∀ (jump : Option Code) (W3 : World), KeepsFrom w.heap.size (W.putObj (w.heap.size + 1) (.loop { rec .ready none with state := .busy })) W3 →
          (Instr.endRound (w.heap.size + 1) jump).run P W3 = .ok (.bool jump.isNone) (W3.putObj (w.heap.size + 1) (.loop (rec (if jump.isNone then .ready else .done) jump))) ∧
          W3.heap[w.heap.size + 1]? = some (.loop { rec .ready none with state := .busy }) ∧
          (W3.putObj (w.heap.size + 1) (.loop (rec (if jump.isNone then .ready else .done) jump))).heap[w.heap.size + 1]? = some (.loop (rec (if jump.isNone then .ready else .done) jump)) ∧
          (W3.putObj (w.heap.size + 1) (.loop (rec (if jump.isNone then .ready else .done) jump))).heap[w.heap.size]? = some (.deferred (some [])) := fun jump W3 hk3 => by
        have hl3 := hk3.same _ _ (by omega) hl2 rfl
        have := run_endRound (P := P) jump hl3
        rw [hrec] at this ⊢
        exact ⟨this, by rw [hrec] at hl3; exact hl3, World.putObj_heap_same (Array.getElem?_eq_some_iff.1 hl3).1, (World.putObj_heap_other (by omega)).trans (hk3.same _ _ (Nat.le_refl _) hk2 rfl)⟩
      rintro e a3 W3 hp
      cases e with
      | normal =>
        obtain ⟨hk3, hkp3, hi3⟩ := hp
        obtain ⟨hr, hl3, hl4, hk4⟩ := fin none W3 hk3
        exact ⟨_, _, hr, .inl ⟨rfl, ⟨hI.putObj _ hi3 (by omega) hl3 rfl, hl4, hk4⟩, hKt hkpa (hKt (hKt hw2 hkp3) (hKb _ _ _ _ (by omega) hl3 rfl rfl))⟩⟩
      | ret =>
        obtain ⟨hk3, hkp3, hi3⟩ := hp
        obtain ⟨hr, hl3, hl4, hk4⟩ := fin (some .ret) W3 hk3
        exact ⟨_, _, hr, .inr ⟨rfl, ⟨.ret, (hIx _).putObj _ hi3 (by omega) hl3 rfl, hl4, hk4⟩, hKt hkpa (hKt (hKt hw2 hkp3) (hKb _ _ _ _ (by omega) hl3 rfl rfl))⟩⟩
      | exit id =>
        obtain ⟨hk3, hkp3, hi3⟩ := hp
        obtain ⟨hr, hl3, hl4, hk4⟩ := fin (some (.exit id)) W3 hk3
        exact ⟨_, _, hr, .inr ⟨rfl, ⟨.exit id, (hIx _).putObj _ hi3 (by omega) hl3 rfl, hl4, hk4⟩, hKt hkpa (hKt (hKt hw2 hkp3) (hKb _ _ _ _ (by omega) hl3 rfl rfl))⟩⟩
      | goto t =>
        obtain ⟨hk3, hkp3, hi3⟩ := hp
        obtain ⟨hr, hl3, hl4, hk4⟩ := fin (some (.goto t)) W3 hk3
        exact ⟨_, _, hr, .inr ⟨rfl, ⟨.goto t, (hIx _).putObj _ hi3 (by omega) hl3 rfl, hl4, hk4⟩, hKt hkpa (hKt (hKt hw2 hkp3) (hKb _ _ _ _ (by omega) hl3 rfl rfl))⟩⟩
      | panic ch => exact hp.elim
      | outgrown => exact hp.elim
    · rintro e W2 ⟨⟨v, rfl⟩, (⟨xs, hs, hi, hl, hk⟩ | ⟨pre, hsp, c, hi, hl, hk⟩)⟩
      · exact ⟨none, _, by have := run_endLoop (P := P) hl (by rw [hrec]; simp); rw [hrec] at this; exact this, hdone _ xs _ (Nat.le_refl _) (hS _ _ _ _ _ hs (by omega) hl rfl rfl) (hI.putObj _ hi (by omega) hl rfl) ((World.putObj_heap_other (by omega)).trans hk)⟩
      · exact ⟨some c, _, by have := run_endLoop (P := P) hl (by rw [hrec]; simp); rw [hrec] at this; exact this, hstop _ c pre _ (Nat.le_refl _) (hSp _ _ _ _ _ hsp (by omega) hl rfl rfl) ((hIx c).putObj _ hi (by omega) hl rfl) ((World.putObj_heap_other (by omega)).trans hk)⟩
end Go.Proofs.YtlgbcogdogpihaaGreatDoor
namespace Go.Proofs.YtlgbcogdogpihaaGreatDoor
open Go.RowKit Go.Shelf
section
variable {F : Fence} {n : Nat} {P : Program} {ops : Array Oper} {Q : Exit → Act → World → Prop} {md : Region.Mode}
theorem ready_mem {L : Array Bool} {i : Nat} (h : i ∈ Region.ready md ops L) : i < ops.size ∧ L.getD i true = false ∧ ∀ o, ops[i]? = some o → ∀ e ∈ o.after.toList, Region.binds md e = true → L.getD e.on false = true := by
  unfold Region.ready at h
  rw [List.mem_filter] at h
  obtain ⟨h1, h2⟩ := h
  rw [Bool.and_eq_true] at h2
  refine ⟨List.mem_range.1 h1, by simpa using h2.1, fun o ho e he hb => ?_⟩
  have h3 := h2.2
  rw [ho] at h3
  simp only [Option.map_some, Option.getD_some] at h3
  rw [Array.all_eq_true'] at h3
  have h4 := h3 e (Array.mem_toList_iff.1 he)
  rw [hb] at h4
  simpa using h4
theorem ready_all {L : Array Bool} (h : Region.ready md ops L = []) (hs : L.size = ops.size) (hlow : ((List.range ops.size).all fun i => ((ops[i]?).map fun o => o.after.toList.all fun e => !Region.binds md e || decide (e.on < i)).getD true) = true) : ∀ i, i < ops.size → L.getD i false = true := by
  intro i
  induction i using Nat.strongRecOn with
  | _ i ih =>
    intro hi
    cases hb : L.getD i false with
    | true => rfl
    | false =>
      have hL : i < L.size := by omega
      have hb' : L[i] = false := by simpa [Array.getD, hL] using hb
      have hmem : i ∈ Region.ready md ops L := by
        unfold Region.ready
        rw [List.mem_filter]
        refine ⟨List.mem_range.2 hi, ?_⟩
        rw [Bool.and_eq_true]
        refine ⟨by simp [Array.getD, hL, hb'], ?_⟩
        have hl := List.all_eq_true.1 hlow i (List.mem_range.2 hi)
        rw [Array.getElem?_eq_getElem hi] at hl ⊢
        simp only [Option.map_some, Option.getD_some] at hl ⊢
        rw [List.all_eq_true] at hl
        rw [Array.all_eq_true']
        intro e he
        have h1 := hl e (Array.mem_toList_iff.2 he)
        rw [Bool.or_eq_true] at h1 ⊢
        rcases h1 with h1 | h1
        · exact .inl h1
        · have h1 := of_decide_eq_true h1
          exact .inr (ih e.on h1 (by omega))
      rw [h] at hmem
      cases hmem
theorem wpAnyIn_inv (Inv : Array Bool → Act → World → Prop)
    (hdone : ∀ L a w, Inv L a w → (Region.ready md ops L = []) → Q .normal a w)
    (hstep : ∀ L a w i, Inv L a w → i ∈ Region.ready md ops L → wpOpIn F n P ops Q i (fun a' w' => Inv (L.setIfInBounds i true) a' w') a w) :
    ∀ fuel L a w, Inv L a w → L.size = ops.size → L.toList.count false ≤ fuel → wpAnyIn F n P md ops Q fuel L a w := by
  intro fuel
  induction fuel with
  | zero =>
    intro L a w hI hs hc
    have hr : Region.ready md ops L = [] := by
      cases hr : Region.ready md ops L with
      | nil => rfl
      | cons i r =>
        have hm := ready_mem (md := md) (ops := ops) (L := L) (i := i) (by rw [hr]; exact List.mem_cons_self ..)
        have hL : i < L.size := by omega
        have h2 := hm.2.1
        have h3 : L[i] = false := by simpa [Array.getD, hL] using h2
        have h4 : L.toList.count false = 0 := by omega
        rw [List.count_eq_zero] at h4
        exact absurd (by rw [← h3]; exact Array.mem_toList_iff.2 (Array.getElem_mem hL)) h4
    exact ⟨hr, hdone L a w hI hr⟩
  | succ fuel ih =>
    intro L a w hI hs hc
    refine ⟨hdone L a w hI, fun i hi => ?_⟩
    have hm := ready_mem hi
    have hL : i < L.size := by omega
    have h3 : L[i] = false := by simpa [Array.getD, hL] using hm.2.1
    refine wpOpIn_mono (fun a' w' h => ih _ a' w' h (by simp [hs]) ?_) (hstep L a w i hI hi)
    have h5 : (L.setIfInBounds i true).toList = L.toList.set i true := by simp
    rw [h5, List.count_set (by simpa using hL)]
    have h6 : L.toList[i]'(by simpa using hL) = false := by simpa using h3
    rw [h6]
    have h7 : 0 < L.toList.count false := List.count_pos_iff.2 (by rw [← h3]; exact Array.mem_toList_iff.2 (Array.getElem_mem hL))
    simp
    simp at hc h7
    omega
end
theorem opIn_val {n l : Nat} {P : Program} {ops : Array Oper} {Q : Exit → Act → World → Prop} {i : Nat} {o : Oper} {a : Act} {w w' : World} {v : Value} {K : Act → World → Prop} (ho : ops[i]? = some o) (hg : o.guard = none) (hd : ∀ c, o.op ≠ .defer c)
    (hrun : (execOp a.eval o).run P w = .ok (.value v) w') (hK : K (a.put o.dst v) w') : wpOpIn (Fence.wide.inRound l) n P ops Q i K a w := by
  unfold wpOpIn
  rw [ho]
  simp only
  rw [if_pos (by simp [Region.wanted, hg])]
  refine ⟨fun _ _ => trivial, ?_⟩
  rw [Oper.semAt_eq _ _ _ hd, hrun]
  exact hK
theorem opIn_skip {n l : Nat} {P : Program} {ops : Array Oper} {Q : Exit → Act → World → Prop} {i : Nat} {o : Oper} {a : Act} {w w' : World} {K : Act → World → Prop} (ho : ops[i]? = some o) (hg : o.guard = none) (hd : ∀ c, o.op ≠ .defer c)
    (hrun : (execOp a.eval o).run P w = .ok .skip w') (hK : K (a.put o.dst undef) w') : wpOpIn (Fence.wide.inRound l) n P ops Q i K a w := by
  unfold wpOpIn
  rw [ho]
  simp only
  rw [if_pos (by simp [Region.wanted, hg])]
  refine ⟨fun _ _ => trivial, ?_⟩
  rw [Oper.semAt_eq _ _ _ hd, hrun]
  exact hK
theorem ev_same (a : Act) (d : Nat) (v : Value) (h : d < a.tmps.size) : (a.put (some d) v).eval (.tmp d) = v := by
  simp [Act.put, Act.eval, h]
theorem ev_ne (a : Act) (d e : Nat) (v : Value) (h : d ≠ e) : (a.put (some d) v).eval (.tmp e) = a.eval (.tmp e) := by
  simp [Act.put, Act.eval, h]
theorem put_size (a : Act) (d : Option Tmp) (v : Value) : (a.put d v).tmps.size = a.tmps.size := by
  cases d <;> simp [Act.put]
theorem set_at {L : Array Bool} {i : Nat} (h : i < L.size) : (L.setIfInBounds i true).getD i false = true := by simp [Array.getD, h]
theorem set_ne {L : Array Bool} {i j : Nat} (h : i ≠ j) : (L.setIfInBounds i true).getD j false = L.getD j false := by
  simp [Array.getD]
  split <;> simp_all
end Go.Proofs.YtlgbcogdogpihaaGreatDoor
namespace Go.Proofs.YtlgbcogdogpihaaGreatDoor
open Go.RowKit Go.Shelf
theorem ite_some {α : Type} {c : Prop} [Decidable c] {a b : α} (h : (if c then some a else none) = some b) : c ∧ a = b := by
  split at h
  · rename_i hc; exact ⟨hc, Option.some.inj h⟩
  · cases h
theorem ite_none {α : Type} {c : Prop} [Decidable c] {x : Option α} {b : α} (h : (if c then none else x) = some b) : x = some b := by
  split at h
  · cases h
  · exact h
theorem Cp.prog_body {s : Bs} {n : Int} {l : List Run} (h : Cp.prog s = some (n, l)) : Cp.body n l = some s := by
  rw [Cp.prog_eq] at h
  obtain ⟨hb, he⟩ := ite_some (ite_none (ite_none h))
  rw [Prod.mk.injEq] at he
  rw [he.1, he.2] at hb
  exact hb
theorem Cp.body_parts {s : Bs} {n : Int} {l : List Run} (h : Cp.body n l = some s) : Cp.fits 4 n = true ∧ l.length ≤ 29 ∧ l.all Cp.okRun = true := by
  unfold Cp.body at h
  split at h
  · rename_i hb
    rw [Bool.and_eq_true, Bool.and_eq_true] at hb
    exact ⟨hb.1.1, by simpa using hb.1.2, hb.2⟩
  · cases h
theorem Cp.fits4 {n : Int} (h : Cp.fits 4 n = true) : 0 ≤ n ∧ n < 4294967296 := by
  unfold Cp.fits at h
  rw [Bool.and_eq_true] at h
  have h1 := h.1
  have h2 := h.2
  simp at h1 h2
  omega
/-- what a page that was read without an error is -/
theorem fo_ok {n : Nat} {down : Bool} {id : Int} {o : Option (Nat × Bs)} (h : (fo n down id o).1.2.2 = 0) :
    noPage n id = false ∧ down = false ∧ ∃ b nx l, o = some (3, b) ∧ Cp.prog b = some (nx, l) ∧ fo n down id o = ((id, l, 0), nx) := by
  unfold fo at h ⊢
  by_cases hx : (frB n down id 3 o).2 = 0
  · rw [hx] at h ⊢
    rw [foOf_ok rfl] at h ⊢
    have hp : ∃ p, Cp.prog (frB n down id 3 o).1 = some p := by
      cases hc : Cp.prog (frB n down id 3 o).1 with
      | none => rw [hc] at h; exact absurd h (by show ¬ (3 : Int) = 0; decide)
      | some p => exact ⟨p, rfl⟩
    obtain ⟨⟨nx, l⟩, hp⟩ := hp
    unfold frB at hx hp
    cases hno : noPage n id with
    | true => rw [hno] at hx; cases hx
    | false =>
      rw [hno] at hx hp
      cases hdn : down with
      | true => rw [hdn] at hx; cases hx
      | false =>
        rw [hdn] at hx hp
        cases o with
        | none => cases hx
        | some kb =>
          obtain ⟨k, b⟩ := kb
          by_cases hk : k = 3
          · subst hk
            refine ⟨rfl, rfl, b, nx, l, rfl, hp, ?_⟩
            unfold frB
            rw [hno]
            show foP id (Cp.prog b) = _
            have hp' : Cp.prog b = some (nx, l) := hp
            rw [hp']; rfl
          · have : (if k = 3 then (b, (0 : Int)) else ([], 3)).2 = 0 := hx
            rw [if_neg hk] at this
            cases this
  · rw [foOf_err hx] at h
    have h' : (if (frB n down id 3 o).2 = 40 then (3 : Int) else (frB n down id 3 o).2) = 0 := h
    split at h'
    · cases h'
    · exact absurd h' hx
theorem fo_len (n : Nat) (down : Bool) (id : Int) (o : Option (Nat × Bs)) : (fo n down id o).1.2.1.length ≤ 29 := by
  unfold fo
  by_cases hx : (frB n down id 3 o).2 = 0
  · rw [hx, foOf_ok rfl]
    cases hc : Cp.prog (frB n down id 3 o).1 with
    | none => exact Nat.zero_le _
    | some p =>
      obtain ⟨nx, l⟩ := p
      exact (Cp.body_parts (Cp.prog_body hc)).2.1
  · rw [foOf_err hx]; exact Nat.zero_le _
theorem fo_next {n : Nat} {down : Bool} {id : Int} {o : Option (Nat × Bs)} (h : (fo n down id o).1.2.2 = 0) : 2 ≤ id ∧ id < (n : Int) ∧ 0 ≤ (fo n down id o).2 ∧ (fo n down id o).2 < 4294967296 := by
  obtain ⟨h1, h2, b, nx, l, rfl, hp, he⟩ := fo_ok h
  rw [he]
  have hb : ¬ id < 2 ∧ ¬ (n : Int) ≤ id := by simpa [noPage] using h1
  have hf := Cp.fits4 (Cp.body_parts (Cp.prog_body hp)).1
  exact ⟨by omega, by omega, hf.1, hf.2⟩
/-- the pages of a chain, as read, from a number on -/
def chL (n : Nat) (down : Bool) (pg : Int → Option (Nat × Bs)) : Nat → List Int → Int → List Lnk
  | 0, _, _ => []
  | k + 1, met, id => if id = 0 then [] else if id ∈ met then [(0, [], 3)] else
      (fo n down id (pg id)).1 :: (if (fo n down id (pg id)).1.2.2 = 0 then chL n down pg k (id :: met) (fo n down id (pg id)).2 else [])
/-- the disk behind it -/
def chD (n : Nat) (down : Bool) (pg : Int → Option (Nat × Bs)) : Nat → Dk → List Int → Int → Dk
  | 0, D, _, _ => D
  | k + 1, D, met, id => if id = 0 then D else if id ∈ met then D else
      (if (fo n down id (pg id)).1.2.2 = 0 then chD n down pg k (D.readD id) (id :: met) (fo n down id (pg id)).2 else D.readD id)
section
variable {n : Nat} {down : Bool} {pg : Int → Option (Nat × Bs)} {k : Nat} {D : Dk} {met : List Int} {id : Int}
theorem chL_zero (k : Nat) (met : List Int) : chL n down pg k met 0 = [] := by cases k <;> rfl
theorem chD_zero (k : Nat) (D : Dk) (met : List Int) : chD n down pg k D met 0 = D := by cases k <;> rfl
theorem chL_met (h0 : id ≠ 0) (hm : id ∈ met) : chL n down pg (k + 1) met id = [(0, [], 3)] := by unfold chL; rw [if_neg h0, if_pos hm]
theorem chD_met (h0 : id ≠ 0) (hm : id ∈ met) : chD n down pg (k + 1) D met id = D := by unfold chD; rw [if_neg h0, if_pos hm]
theorem chL_step (h0 : id ≠ 0) (hm : id ∉ met) {y : Lnk × Int} (hy : y = fo n down id (pg id)) : chL n down pg (k + 1) met id = y.1 :: (if y.1.2.2 = 0 then chL n down pg k (id :: met) y.2 else []) := by
  rw [hy, chL, if_neg h0, if_neg hm]
theorem chD_step (h0 : id ≠ 0) (hm : id ∉ met) {y : Lnk × Int} (hy : y = fo n down id (pg id)) : chD n down pg (k + 1) D met id = if y.1.2.2 = 0 then chD n down pg k (D.readD id) (id :: met) y.2 else D.readD id := by
  rw [hy, chD, if_neg h0, if_neg hm]
theorem chD_nil (h : chL n down pg k met id = []) : chD n down pg k D met id = D := by
  cases k with
  | zero => rfl
  | succ k =>
    by_cases h0 : id = 0
    · subst h0; exact chD_zero _ _ _
    · by_cases hm : id ∈ met
      · exact chD_met h0 hm
      · rw [chL_step h0 hm rfl] at h; cases h
end
/-- met numbers are pages, each once: there are no more than pages -/
theorem met_len {n : Nat} {met : List Int} (hn : met.Nodup) (hb : ∀ x ∈ met, 2 ≤ x ∧ x < (n : Int)) : met.length ≤ n := by
  have hs : met ⊆ (List.range n).map (fun i : Nat => (i : Int)) := fun x hx => by
    have := hb x hx
    exact List.mem_map.2 ⟨x.toNat, List.mem_range.2 (by omega), by omega⟩
  have := List.Nodup.length_le_of_subset hn hs
  simpa using this
/-- the same to what reads it -/
structure SameD (D D' : Dk) : Prop where
  sure : D'.sure = D.sure
  now : D'.now = D.now
  down : D'.down = D.down
theorem SameD.refl (D : Dk) : SameD D D := ⟨rfl, rfl, rfl⟩
theorem SameD.readD {D D' : Dk} (h : SameD D D') (i : Int) : SameD D (D'.readD i) := by
  unfold Dk.readD
  split
  · exact h
  · split
    · exact h
    · exact ⟨h.sure, h.now, h.down⟩
theorem SameD.get {D D' : Dk} (h : SameD D D') (i : Int) : D'.get i = D.get i := by unfold Dk.get; rw [h.sure, h.now]
theorem SameD.page {D D' : Dk} (h : SameD D D') {i : Int} {o : Option (Nat × Bs)} (hp : PageIs D i o) : PageIs D' i o := by unfold PageIs; rw [h.get]; exact hp
/-- what a set of met numbers is as a map -/
def boolR (v : Value) : Option (DataW Value × List MemPlace) :=
  match v with
  | .bool _ => some (.held v, [])
  | _ => none
theorem boolR_mk (b : Bool) : boolR (.bool b) = some (.held (.bool b), []) := rfl
theorem boolR_inv {v : Value} {z : DataW Value × List MemPlace} (h : boolR v = some z) : ∃ b, v = .bool b ∧ z = (.held (.bool b), []) := by
  unfold boolR at h
  split at h
  · rename_i b; exact ⟨b, rfl, by cases h; rfl⟩
  · cases h
def MetOf (D : DataW Value) (met : List Int) : Prop := ∀ (i : Int) (z : DataW Value), D.atKey (.int .i64 i) z = if i ∈ met then .held (.bool true) else z
theorem MetOf.nil : MetOf (.map []) [] := fun i z => by simp [DataW.atKey]
theorem MetOf.put {D : DataW Value} {met : List Int} (h : MetOf D met) (hm : Maps.IsMap D) (i : Int) : MetOf (D.put (.int .i64 i) (.held (.bool true))) (i :: met) := by
  intro j z
  by_cases e : j = i
  · subst e
    rw [Maps.atKey_put_same hm (by trivial)]; simp
  · have hne : (Lit.int .i64 j) ≠ .int .i64 i := by intro e2; injection e2 with _ e2; exact e e2
    rw [Maps.atKey_put_other hne, h j z]; simp [e]
theorem MetOf.again {D : DataW Value} {met : List Int} (h : MetOf D met) (hm : Maps.IsMap D) {i : Int} (hi : i ∈ met) : MetOf (D.put (.int .i64 i) (.held (.bool true))) met := by
  intro j z
  by_cases e : j = i
  · subst e
    rw [Maps.atKey_put_same hm (by trivial)]; simp [hi]
  · have hne : (Lit.int .i64 j) ≠ .int .i64 i := by intro e2; injection e2 with _ e2; exact e e2
    rw [Maps.atKey_put_other hne, h j z]
end Go.Proofs.YtlgbcogdogpihaaGreatDoor
namespace Go.Proofs.YtlgbcogdogpihaaGreatDoor
open Go.RowKit Go.Shelf
attribute [local go_sem] Oper.semAt_some
set_option maxRecDepth 100000 in
theorem links_any (f : Nat) (head : Int) (w : World) :
    Calls Tryz.prog 44 #[.pointer (some ⟨f, 0, none⟩), .int .i64 head] w fun e w' => e = .returned (.func (.func 86) #[] #[.pointer (some ⟨w.heap.size + 1, 0, none⟩), .pointer (some ⟨w.heap.size, 0, none⟩)]) ∧
      w' = (w.alloc (.cells #[.pointer (some ⟨f, 0, none⟩)] 24)).alloc (.cells #[.int .i64 head] 3) := by
  go_enter Tryz.func44, Tryz.ntmps44
  go_wp2
  go_ret
  exact ⟨rfl, rfl⟩
/-- the types of what the round of chain.Read turns -/
def bodyT (t : TypeId) : Bool := t == 22 || t == 28 || t == 29 || t == 62 || t == 3
/-- what a round keeps, for the iterator -/
structure KpL (n₀ : Nat) (X Y : World) : Prop where
  below : Below n₀ X Y
  blk : ∀ (g : Nat) (t : TypeId) (cs : Array Value), Blk X g t cs → bodyT t = false → Blk Y g t cs
  maps : Maps_ X Y
theorem KpL.keepF {n₀ : Nat} {X Y : World} (h : KpL n₀ X Y) : KeepF X Y := ⟨fun g t cs hb ht => h.blk g t cs hb (by
  unfold fileT at ht
  simp only [Bool.or_eq_true, beq_iff_eq] at ht
  rcases ht with ((rfl | rfl) | rfl) | rfl <;> decide), h.maps⟩
/-- what the iterator may do between rounds, for the round -/
structure AbL (B : Nat) (X Y : World) : Prop where
  below : Below B X Y
  kept : Kept X Y
  oth : ∀ (k : Nat) (o : Obj), X.heap[k]? = some o → o.isCells = false → o.isWalk = false → Y.heap[k]? = some o
abbrev LnkV := Lnk × Value
def lnkE (x : LnkV) : Array Value := #[.agg #[.int .i64 x.1.1, x.2, .int .i64 x.1.2.2]]
/-- what is said of what is yielded -/
def GL (n₁ : Nat) (T : List Lnk) (xs : List LnkV) (W : World) : Prop := ∃ pre x, xs = pre ++ [x] ∧ Own W n₁ x.2 x.1.2.1 ∧ x.1.2.1.length ≤ 29 ∧ xs.map (·.1) <+: T
/-- how it ends -/
def SL (B f d kk : Nat) (T : List Lnk) (DT : Dk) (xs : List LnkV) (W : World) : Prop := xs.map (·.1) = T ∧ FAt W B f d kk DT
def SpL (B f d kk : Nat) (T : List Lnk) (DT : Dk) (xs : List LnkV) (W : World) : Prop := xs.map (·.1) <+: T ∧ ∃ Dj, FAt W B f d kk Dj ∧ (xs.map (·.1) = T → Dj = DT)
theorem wf_small {i : Int} (h0 : 0 ≤ i) (h1 : i < 4294967296) : (Lit.int .i64 i).wf = true := by simp [Lit.wf, IntKind.min, IntKind.max, IntKind.signed, IntKind.bits]; omega
section
variable {w w' : World} {B f d k : Nat} {D : Dk}
theorem FAt.dmap (h : FAt w B f d k D) : ∃ m', w.cell? ⟨d, 1, none⟩ = some (.map (some m')) ∧ m' < w.heap.size := by
  obtain ⟨s, m, pv, Dm, h2⟩ := h.disk
  exact ⟨m, h2.self.cell 1, h2.map.lt⟩
theorem Blk.turnMap {g m : Nat} {ty : TypeId} {cs : Array Value} {es : Array MapEntry} {c : Nat} (h : Blk w g ty cs) (hm : w.heap[m]? = some (.map es c)) (hg : w.grownBy w' (some m)) : Blk w' g ty cs :=
  h.grown hg (fun e => by
    have e := Option.some.inj e
    subst e
    have := h.symm.trans hm
    cases this)
/-- another map was turned: the file is as it was -/
theorem FAt.turnMap (h : FAt w B f d k D) {m : Nat} {es : Array MapEntry} {c : Nat} (hm : w.heap[m]? = some (.map es c)) (hg : w.grownBy w' (some m)) (hne : ∀ m', w.cell? ⟨d, 1, none⟩ = some (.map (some m')) → m' < m) : FAt w' B f d k D := by
  obtain ⟨s, m', pv, Dm, h2⟩ := h.disk
  have hlt := hne m' (h2.self.cell 1)
  refine ⟨h.le, h.self.turnMap hm hg, s, m', pv, Dm, h2.le, h2.self.turnMap hm hg, h2.sure.turnMap hm hg, h2.map.kept hg (fun e => by have := Option.some.inj e; omega), h2.now, ?_⟩
  have hp := h2.pend
  rcases hp with ⟨h3, h4 | ⟨g, cap, cur, hv, hb, hh, r⟩⟩
  · exact ⟨h3, .inl h4⟩
  · exact ⟨h3, .inr ⟨g, cap, cur, hv, hb, Blk.turnMap hh hm hg, r⟩⟩
theorem KpL.dcell {n₀ : Nat} (h : KpL n₀ w w') (hF : FAt w B f d k D) : w'.cell? ⟨d, 1, none⟩ = w.cell? ⟨d, 1, none⟩ := by
  obtain ⟨s, m, pv, Dm, h2⟩ := hF.disk
  rw [h2.self.cell 1, (h.blk _ _ _ h2.self (by decide)).cell 1]
theorem KpL.ownsMap {n₀ m j : Nat} {Dm : DataW Value} (h : KpL n₀ w w') (ho : w.ownsMap Tryz.prog 3 boolR m j Dm) : w'.ownsMap Tryz.prog 3 boolR m j Dm := by
  obtain ⟨es, clock, hb, r⟩ := ho
  exact ⟨es, clock, h.maps _ _ _ hb, r⟩
theorem Oth_.ownsMap {m j : Nat} {Dm : DataW Value} (h : Oth_ w w') (ho : w.ownsMap Tryz.prog 3 boolR m j Dm) : w'.ownsMap Tryz.prog 3 boolR m j Dm := by
  obtain ⟨es, clock, hb, r⟩ := ho
  exact ⟨es, clock, h _ _ hb rfl, r⟩
theorem AbL.trans {X Y Z : World} (h : AbL B X Y) (g : AbL B Y Z) : AbL B X Z := ⟨h.below.trans g.below, h.kept.trans g.kept, fun i o hi h1 h2 => g.oth i o (h.oth i o hi h1 h2) h1 h2⟩
theorem AbL.of_below {X Y : World} (h : Below X.heap.size X Y) (hB : B ≤ X.heap.size) : AbL B X Y := ⟨h.mono hB, Kept.below h, fun i o hi h1 _ => Oth_.below h i o hi h1⟩
theorem AbL.of_oth {X Y : World} (h : Below B X Y) (h1 : Kept X Y) (h2 : Oth_ X Y) : AbL B X Y := ⟨h, h1, fun i o hi h3 _ => h2 i o hi h3⟩
theorem AbL.turnMap {X Y : World} {m : Nat} {es : Array MapEntry} {c : Nat} (hm : X.heap[m]? = some (.map es c)) (hg : X.grownBy Y (some m)) (hB : B ≤ X.heap.size) (hBm : B ≤ m) : AbL B X Y :=
  ⟨below_of_grown hg hB hBm, fun g t cs hb _ _ => hb.turnMap hm hg, fun i o hi _ h2 => (hg.block i (Array.getElem?_eq_some_iff.1 hi).1 (fun e => by
    have e := Option.some.inj e
    subst e
    rw [hm] at hi
    cases hi
    cases h2)).trans hi⟩
theorem AbL.far {X Y Z : World} {g : Nat} {ty : TypeId} {cs : Array Value} (h : AbL B X Y) (hb : Blk Y g ty cs) (hg : Y.grownBy Z (some g)) (hge : X.heap.size ≤ g) (hB : B ≤ X.heap.size) : AbL B X Z :=
  ⟨h.below.grown hg (Nat.le_trans hB h.below.size) (fun r e => by cases e; omega), h.kept.far hg hge, fun i o hi h1 h2 => Oth_.grown hb hg i o (h.oth i o hi h1 h2) h1⟩
theorem owns_obj {m j : Nat} {Dm : DataW Value} (ho : w.ownsMap Tryz.prog 3 boolR m j Dm) : ∃ es c, w.heap[m]? = some (.map es c) := by
  obtain ⟨es, clock, hb, r⟩ := ho
  exact ⟨_, _, hb⟩
set_option maxRecDepth 100000 in
/-- 'met[id]' -/
theorem met_look {m j : Nat} {Dm : DataW Value} {met : List Int} (ho : w.ownsMap Tryz.prog 3 boolR m j Dm) (hmet : MetOf Dm met) {id : Int} (hw : (Lit.int .i64 id).wf = true) :
    (Instr.lookup 146 (.map (some m)) (.int .i64 id) false).run Tryz.prog w = .ok (.bool (decide (id ∈ met))) w := by
  obtain ⟨v, ps, hlook, hv⟩ := ho.lookup dkeyedI Tryz.underlying146 (Tryz.zeroValue4 w) (boolR_mk false) (dkeyI hw)
  obtain ⟨b, rfl, hz⟩ := boolR_inv hv
  rw [hmet id] at hz
  have : b = decide (id ∈ met) := by
    have hz := (Prod.mk.inj hz).1
    by_cases hm : id ∈ met
    · rw [if_pos hm] at hz; injection hz with hz; injection hz with hz; rw [decide_eq_true hm]; exact hz.symm
    · rw [if_neg hm] at hz; injection hz with hz; injection hz with hz; rw [decide_eq_false hm]; exact hz.symm
  rw [this] at hlook
  exact hlook
end
set_option maxRecDepth 100000 in
set_option maxHeartbeats 4000000 in
theorem links1_in (lp B f d kk N n₀ n₁ hb fb M : Nat) (D : Dk) (pg : Int → Option (Nat × Bs)) (head : Int) (J Jx : List LnkV → World → Prop) (Kp : World → World → Prop) (T : List Lnk) (DT : Dk) (W : World)
    (hT0 : T = chL D.sure.length D.down pg (D.sure.length + 1) [] head) (hD0 : DT = chD D.sure.length D.down pg (D.sure.length + 1) D [] head) (hM : T.length ≤ M)
    (hn1 : n₁ ≤ W.heap.size) (hFA : FAt W B f d kk D) (hL : Lim D N) (hN : N + 20000 < 1000000) (hT : HT W) (hB0 : 0 < B) (hB : B ≤ W.heap.size) (hn0 : 0 < n₀)
    (hw : (Lit.int .i64 head).wf = true) (hpg : ∀ id, noPage D.sure.length id = false → D.down = false → PageIs D id (pg id))
    (hhb : W.cell? ⟨hb, 0, none⟩ = some (.int .i64 head)) (hhl : hb < W.heap.size) (hfb : Blk W fb 24 #[.pointer (some ⟨f, 0, none⟩)])
    (hKp : ∀ X Y, Kp X Y → KpL n₀ X Y) (hJA : ∀ s X Y, J s X → AbL B X Y → J s Y)
    (hY : ∀ pre x W1, J pre W1 → pre.length < M → GL n₁ T (pre ++ [x]) W1 → YieldAt Fence.wide 0 Tryz.prog lp (lnkE x) W1 fun e W' =>
      (e = .returned (.bool true) ∧ J (pre ++ [x]) W' ∧ Kp W1 W') ∨ (e = .returned (.bool false) ∧ Jx (pre ++ [x]) W' ∧ Kp W1 W')) (h0 : J [] W) :
    CallsIn Fence.wide 1 Tryz.prog 86 #[.func (.yield lp) #[] #[], .pointer (some ⟨hb, 0, none⟩), .pointer (some ⟨fb, 0, none⟩)] W fun e W' => (∃ v, e = .returned v) ∧
      ((∃ xs, SL B f d kk T DT xs W' ∧ J xs W') ∨ (∃ pre, SpL B f d kk T DT pre W' ∧ Jx pre W')) := by
  have hn := hL.n
  have HPG := Lib.hid hpg
  obtain ⟨n, hnn⟩ : ∃ n, n = D.sure.length := ⟨_, rfl⟩
  obtain ⟨dn, hdd⟩ : ∃ dn, dn = D.down := ⟨_, rfl⟩
  rw [← hnn, ← hdd] at hT0 hD0
  rw [← hnn] at hn
  have HT0 := Lib.hid hT0
  have HD0 := Lib.hid hD0
  have HNN := Lib.hid hnn
  have HDD := Lib.hid hdd
  clear hT0 hD0 hpg hnn hdd
  have hmm := @run_makeMap Tryz.prog
  have hmap0 := World.ownsMap_made W Tryz.prog 3 boolR
  have hab0 : AbL B W (W.alloc (.map #[] 0)) := ⟨((Below.refl _ W).alloc (Nat.le_refl _) _).mono hB, Kept.below ((Below.refl _ W).alloc (Nat.le_refl _) _), fun k o hk _ _ => ((Below.refl _ W).alloc (Nat.le_refl _) _).block k (Array.getElem?_eq_some_iff.1 hk).1 ▸ hk⟩
  have hhb0 : (W.alloc (.map #[] 0)).cell? ⟨hb, 0, none⟩ = some (.int .i64 head) := (World.cell?_alloc_lt W _ _ hhl).trans hhb
  refine callsIn_of_wp Tryz.func86 rfl trivial ?_ rfl
  simp only [Tryz.ntmps86, List.size_toArray, List.length_cons, List.length_nil, Nat.reduceAdd, Nat.reduceSub, Array.replicate_succ, Array.replicate_zero, List.push_toArray, List.append_toArray, List.nil_append, List.cons_append]
  gi_wp2
  gi_loopg [5] (n + 1) (fun k i wr => ∃ (id : Int) (met : List Int) (pre : List LnkV) (Dj : Dk) (Dm : DataW Value), i = .int .i64 id ∧ (Lit.int .i64 id).wf = true ∧ met.Nodup ∧ (∀ x ∈ met, 2 ≤ x ∧ x < (n : Int)) ∧ met.length + k = n + 1 ∧ J pre wr ∧
    Hid (T = pre.map (·.1) ++ chL n dn pg k met id) ∧ Hid (DT = chD n dn pg k Dj met id) ∧ FAt wr B f d kk Dj ∧ Lim Dj (N + met.length) ∧ SameD D Dj ∧ HT wr ∧ wr.ownsMap Tryz.prog 3 boolR W.heap.size met.length Dm ∧ MetOf Dm met ∧
    Blk wr fb 24 #[.pointer (some ⟨f, 0, none⟩)] ∧ W.heap.size < wr.heap.size ∧ wr.cell? ⟨d, 1, none⟩ = W.cell? ⟨d, 1, none⟩)
  case atStart => exact ⟨head, [], [], D, _, rfl, hw, List.nodup_nil, by simp, by simp, hJA _ _ _ h0 hab0, Lib.hid (by rw [HT0.out]; rfl), HD0, hFA.keep ((Below.refl _ W).alloc (Nat.le_refl _) _), hL, SameD.refl D, hT.below hab0.below hB0, hmap0, MetOf.nil, hfb.alloc _, by simp, World.cell?_alloc_lt W _ _ hFA.dlt⟩
  case round =>
    obtain ⟨id, met, pre, Dj, Dm, rfl, hwf, hnd, hbd, hcnt, hJ, hTT, hDD, hF, hLm, hSD, hTr, hmap, hmet, hfbr, hsz, hdc⟩ := hrel
    obtain ⟨m0, hm0, hm0l⟩ := hFA.dmap
    have hmne : ∀ X : World, X.cell? ⟨d, 1, none⟩ = W.cell? ⟨d, 1, none⟩ → ∀ m', X.cell? ⟨d, 1, none⟩ = some (.map (some m')) → m' < W.heap.size := fun X hX m' hm' => by
      rw [hX, hm0] at hm'
      injection hm' with hm'
      injection hm' with hm'
      injection hm' with hm'
      omega
    have hml := met_len hnd hbd
    have hBr : B ≤ wr.heap.size := by omega
    by_cases hz : id = 0
    · subst hz
      have hxs : pre.map (·.1) = T := by rw [hTT.out, chL_zero, List.append_nil]
      have hdx : DT = Dj := by rw [hDD.out, chD_zero]
      subst hdx
      clear hTT hDD
      gi_wp2
      go_end0
      exact ⟨⟨_, rfl⟩, .inl ⟨pre, ⟨hxs, hF⟩, hJ⟩⟩
    · obtain ⟨k', rfl⟩ : ∃ k', gk = k' + 1 := ⟨gk - 1, by omega⟩
      have hb1 : Below wr.heap.size wr (wr.alloc (.cells #[.int .i64 0, .slice none 0 0, .int .i64 3] 94)) := (Below.refl _ wr).alloc (Nat.le_refl _) _
      have hlk1 := Blk.new wr 94 #[.int .i64 0, .slice none 0 0, .int .i64 3]
      have hmap1 := hmap.alloc (.cells #[.int .i64 0, .slice none 0 0, .int .i64 3] 94)
      have hlook := met_look hmap1 hmet hwf
      have hfb1 := hfbr.alloc (.cells #[.int .i64 0, .slice none 0 0, .int .i64 3] 94)
      have hF1 := hF.keep hb1
      have hT1 := hTr.below (hb1.mono hBr) hB0
      have hdc1 := (hb1.cell (p := ⟨d, 1, none⟩) hF.dlt).trans hdc
      by_cases hmem : id ∈ met
      · obtain ⟨w4, hupd, hmap4, hturn⟩ := hmap1.store dkeyedI Tryz.underlying146 (show met.length < maxLen by unfold maxLen; omega) (dkeyI hwf) (boolR_mk true)
        obtain ⟨es, cl, hobj⟩ := owns_obj hmap1
        have hab := (AbL.of_below hb1 hBr).trans (AbL.turnMap hobj hturn.grown (Nat.le_trans hBr hb1.size) hB)
        have hlk4 := hlk1.turnMap hobj hturn.grown
        have hF4 := hF1.turnMap hobj hturn.grown (hmne _ hdc1)
        have hTe : T = (pre ++ [(((0, [], 3), .slice none 0 0) : LnkV)]).map (·.1) := by rw [hTT.out, chL_met hz hmem]; simp
        have hDe : DT = Dj := by rw [hDD.out, chD_met hz hmem]
        have hYk := hY pre ((0, [], 3), .slice none 0 0) w4 (hJA _ _ _ hJ hab) (by rw [hTe] at hM; simp at hM; omega) ⟨pre, _, rfl, Own.nil_ _ _, Nat.zero_le _, by rw [← hTe]; exact List.prefix_refl _⟩
        obtain ⟨fn, tmps, assign, body, hyl, hR⟩ := hYk
        unfold lnkE at hyl
        have c0 := hlk4.cell 0
        have c1 := hlk4.cell 1
        have c2 := hlk4.cell 2
        have HTE := Lib.hid hTe
        have HLK := Lib.hid hlk4
        have hq : decide (id ∈ met) = true := decide_eq_true hmem
        rw [hq] at hlook
        clear hTe hTT hDD hmem hq hlk4
        subst hDe
        gi_wp2
        refine hR.mono ?_
        rintro e W3 (⟨rfl, hJ3, hk3⟩ | ⟨rfl, hJx3, hk3⟩)
        · have hK := hKp _ _ hk3
          have d2 := (hK.blk _ _ _ HLK.out (by decide)).cell 2
          gi_wp2
          refine bodyPost_ret (results_none rfl _ _ _) rfl ?_
          exact ⟨⟨_, rfl⟩, .inl ⟨_, ⟨HTE.out.symm, hF4.keepF hK.keepF⟩, hJ3⟩⟩
        · gi_wp2
          refine bodyPost_ret (results_none rfl _ _ _) rfl ?_
          exact ⟨⟨_, rfl⟩, .inr ⟨_, ⟨by rw [← HTE.out]; exact List.prefix_refl _, _, hF4.keepF (hKp _ _ hk3).keepF, fun _ => rfl⟩, hJx3⟩⟩
      · have hfo := follow_any hF1 (hLm.fine (by omega)) hT1 hB0 (Nat.le_trans hBr hb1.size) id (pg id) (fun h1 h2 => hSD.page (HPG.out id (by rw [← hSD.sure]; exact h1) (by rw [← hSD.down]; exact h2)))
        rw [hSD.sure, hSD.down, ← HNN.out, ← HDD.out] at hfo
        have hyl := fo_len n dn id (pg id)
        have hyn := fun h => fo_next (n := n) (down := dn) (id := id) (o := pg id) h
        have hTs := chL_step (k := k') (met := met) (pg := pg) hz hmem (y := fo n dn id (pg id)) rfl
        have hDs := chD_step (k := k') (D := Dj) (met := met) (pg := pg) hz hmem (y := fo n dn id (pg id)) rfl
        rw [hTs] at hTT
        rw [hDs] at hDD
        generalize fo n dn id (pg id) = y at *
        obtain ⟨⟨a, l, er⟩, nx⟩ := y
        have hq : decide (id ∈ met) = false := decide_eq_false hmem
        rw [hq] at hlook
        have HYN := Lib.hid hyn
        clear hTs hDs hq hyn
        have cfb := hfbr.cell 0
        have lfb := hfbr.lt
        gi_wp2_with fail
        refine ⟨trivial, (callsIn_wide.2 hfo).mono ?_⟩
        rintro e w2 ⟨v, rfl, hown2, hF2, hb2, hk2, ho2, hdc2⟩
        simp only at hown2
        obtain ⟨A, c, rfl⟩ := hown2.form
        have hg1 : (wr.alloc (.cells #[.int .i64 0, .slice none 0 0, .int .i64 3] 94)).heap.size = wr.heap.size + 1 := by simp
        rw [hg1] at hown2
        have hs2 : wr.heap.size + 1 ≤ w2.heap.size := by have := hb2.size; rw [hg1] at this; exact this
        have hdl := hF.dlt
        have hdW := hFA.dlt
        have hlk2 := hk2 _ _ _ hlk1 (by decide) (by decide)
        obtain ⟨hlk3, hg3⟩ := link_store (.int .i64 a) (.slice A l.length c) (.int .i64 er) hlk2
        have hmap3 := (ho2.ownsMap hmap1).kept hg3 (fun e => by have := Option.some.inj e; omega)
        obtain ⟨w4, hupd, hmap4, hturn⟩ := hmap3.store dkeyedI Tryz.underlying146 (show met.length < maxLen by unfold maxLen; omega) (dkeyI hwf) (boolR_mk true)
        obtain ⟨es, cl, hobj⟩ := owns_obj hmap3
        have hab := ((AbL.of_below hb1 hBr).trans (AbL.of_oth hb2 hk2 ho2)).far hlk2 hg3 (Nat.le_refl _) hBr
        have hab4 := hab.trans (AbL.turnMap hobj hturn.grown (Nat.le_trans hBr hab.below.size) hB)
        have hlk4 := hlk3.turnMap hobj hturn.grown
        have hdc3 := (cell_off (j := 1) hg3 (show d < w2.heap.size by omega) (by omega)).trans (hdc2.trans hdc1)
        have hF4 := (hF2.keepF (KeepF.grown hlk2 (by decide) hg3)).turnMap hobj hturn.grown (hmne _ hdc3)
        have hdc4 := (cell_off (j := 1) hturn.grown (show d < _ from Nat.lt_of_lt_of_le (show d < w2.heap.size by omega) hg3.size) (by omega)).trans hdc3
        have hown3 := World.ownsRow.kept hown2 hg3 (.inr (fun e => by have := (hown2.lt _ e).1; omega))
        have hown4 := World.ownsRow.kept hown3 hturn.grown (.inr (fun e => by have := (hown2.lt _ e).1; omega))
        have hfb2 := hk2 _ _ _ hfb1 (by decide) (by decide)
        have hfb4 := (hfb2.grown hg3 (fun e => by have := Option.some.inj e; omega)).turnMap hobj hturn.grown
        have him := hmap3.isMap
        have hTl := congrArg List.length hTT.out
        rw [List.length_append, List.length_map, List.length_cons] at hTl
        have hpx : (pre ++ [(((a, l, er), .slice A l.length c) : LnkV)]).map (·.1) <+: T := ⟨_, by rw [hTT.out, List.map_append, List.append_assoc]; rfl⟩
        have hYk := hY pre ((a, l, er), .slice A l.length c) w4 (hJA _ _ _ hJ hab4) (by omega) ⟨pre, _, rfl, own_lower hown4 (by omega), hyl, hpx⟩
        obtain ⟨fn, tmps, assign, body, hyl2, hR⟩ := hYk
        unfold lnkE at hyl2
        have d0 := hlk2.cell 0
        have d1 := hlk2.cell 1
        have d2 := hlk2.cell 2
        have f0 := hlk2.frozen 0
        have f1 := hlk2.frozen 1
        have f2 := hlk2.frozen 2
        have e0 := hlk4.cell 0
        have e1 := hlk4.cell 1
        have e2 := hlk4.cell 2
        have HLK := Lib.hid hlk4
        have HPX := Lib.hid hpx
        have HTL := Lib.hid hTl
        clear hlk4 hpx hTl hlk3 hg3
        gi_wp2
        refine hR.mono ?_
        rintro e W3 (⟨rfl, hJ3, hk3⟩ | ⟨rfl, hJx3, hk3⟩)
        · have hK := hKp _ _ hk3
          have g2 := (hK.blk _ _ _ HLK.out (by decide)).cell 2
          have hF5 := hF4.keepF hK.keepF
          by_cases her : er = 0
          · have hTT2 := hTT.out
            have hDD2 := hDD.out
            rw [if_pos her] at hTT2 hDD2
            have hyn0 := HYN.out her
            subst her
            have HT2 := Lib.hid hTT2
            have HD2 := Lib.hid hDD2
            have hyn : 2 ≤ id ∧ id < (n : Int) ∧ 0 ≤ nx ∧ nx < 4294967296 := hyn0
            clear hyn0
            clear hTT2 hDD2 HYN hTT hDD
            gi_wp2
            gi_roundg k'
            case measure => omega
            case rel => exact ⟨nx, id :: met, pre ++ [((a, l, 0), .slice A l.length c)], Dj.readD id, _, rfl, wf_small hyn.2.2.1 hyn.2.2.2, List.nodup_cons.2 ⟨hmem, hnd⟩, fun x hx => by
              rcases List.mem_cons.1 hx with rfl | hx
              · exact ⟨hyn.1, hyn.2.1⟩
              · exact hbd x hx, by simp; omega, hJ3, Lib.hid (by rw [HT2.out]; simp), HD2, hF5, (hLm.readD id).mono (by simp; omega), hSD.readD id, (hTr.below hab4.below hB0).below hK.below hn0, hK.ownsMap hmap4, hmet.put him id, hK.blk _ _ _ hfb4 (by decide), by have := hab4.below.size; have := hK.below.size; omega, (hK.dcell hF4).trans hdc4⟩
          · have hq3 : (er != 0) = true := by simpa using her
            have hTT2 := hTT.out
            have hDD2 := hDD.out
            rw [if_neg her] at hTT2 hDD2
            have HT2 := Lib.hid hTT2
            have HD2 := Lib.hid hDD2
            clear hTT2 hDD2 HYN hTT hDD
            gi_wp2
            refine bodyPost_ret (results_none rfl _ _ _) rfl ?_
            exact ⟨⟨_, rfl⟩, .inl ⟨_, ⟨by rw [HT2.out]; simp, by rw [HD2.out]; exact hF5⟩, hJ3⟩⟩
        · have hK := hKp _ _ hk3
          have hF5 := hF4.keepF hK.keepF
          have hend : (pre ++ [(((a, l, er), .slice A l.length c) : LnkV)]).map (·.1) = T → Dj.readD id = DT := fun hh => by
            rw [hTT.out, List.map_append] at hh
            have hh2 := List.append_cancel_left hh
            have hh3 : (if er = 0 then chL n dn pg k' (id :: met) nx else []) = [] := (List.cons.inj hh2).2.symm
            rw [hDD.out]
            show Dj.readD id = if er = 0 then _ else _
            by_cases her : er = 0
            · rw [if_pos her] at hh3 ⊢
              exact (chD_nil hh3).symm
            · rw [if_neg her]
          have HE := Lib.hid hend
          clear hend HYN hTT hDD
          gi_wp2
          refine bodyPost_ret (results_none rfl _ _ _) rfl ?_
          exact ⟨⟨_, rfl⟩, .inr ⟨_, ⟨HPX.out, _, hF5, HE.out⟩, hJx3⟩⟩
end Go.Proofs.YtlgbcogdogpihaaGreatDoor
namespace Go.Proofs.YtlgbcogdogpihaaGreatDoor
open Go.RowKit Go.Shelf
section
variable {w w' : World} {row : Option Nat} {T : TypeId}
theorem keep_blk (hg : w.grownBy w' row) (hr : ∀ r, row = some r → ∃ cs, Blk w r T cs) {g : Nat} {t : TypeId} {cs : Array Value} (hb : Blk w g t cs) (hne : t ≠ T) : Blk w' g t cs :=
  hb.grown hg (fun e => by
    obtain ⟨cs', hc⟩ := hr g e.symm
    exact hb.ne_ hc hne rfl)
theorem keep_LO {α : Type} {E : Enc α} {ty : TypeId} {base : Nat} {v : Value} {l : List α} (hg : w.grownBy w' row) (hr : ∀ r, row = some r → ∃ cs, Blk w r T cs) (h : LO E ty w base v l) (hne : ty ≠ T) : LO E ty w' base v l :=
  h.keep hg (fun r e => by
    obtain ⟨cs, hc⟩ := hr r e
    exact ⟨_, hc, fun cs' e => by injection e with _ e; exact hne e.symm⟩)
theorem keep_oth (hg : w.grownBy w' row) (hr : ∀ r, row = some r → ∃ cs, Blk w r T cs) : Oth_ w w' := by
  intro m o h hc
  refine (hg.block m (Array.getElem?_eq_some_iff.1 h).1 (fun e => ?_)).trans h
  obtain ⟨cs, hcs⟩ := hr m e.symm
  have := h.symm.trans hcs
  cases this
  cases hc
theorem keep_RS {A : Option Addr} {l : List Run} (h : RS w w.heap.size A l) (o : Obj) : RS (w.alloc o) (w.alloc o).heap.size A l :=
  (h.below ((Below.refl _ w).alloc (Nat.le_refl _) o)).more ((Below.refl _ w).alloc (Nat.le_refl _) o).size
end
def upd (g : Nat → Bool) (i : Nat) : Nat → Bool := fun j => if j = i then true else g j
theorem upd_le {g : Nat → Bool} {i j : Nat} (h : g j = true) : upd g i j = true := by unfold upd; split <;> simp [h]
/-- how it stands when some operations are done -/
structure St (n₀ b4 b5 b6 b7 b8 Bx : Nat) (l lr : List Run) (ids : List Int) (id er : Int) (A : Option Addr) (c : Nat) (vl vi : Value) (w0 : World) (g : Nat → Bool) (a : Act) (w : World) : Prop where
  hn : n₀ ≤ w0.heap.size
  sz : a.tmps.size = 32
  fx : a.eval (.tmp 7) = .pointer (some ⟨b7, 0, none⟩) ∧ a.eval (.tmp 8) = .pointer (some ⟨b8, 0, none⟩) ∧ a.eval (.tmp 9) = .pointer (some ⟨Bx, 0, none⟩)
  d3 : g 3 = true → g 0 = true ∧ g 2 = true
  d8 : g 8 = true → g 3 = true ∧ g 4 = true
  d9 : g 9 = true → g 3 = true ∧ g 8 = true
  d10 : g 10 = true → g 9 = true
  t0 : g 0 = true → a.eval (.tmp 20) = vl
  t1 : g 1 = true → a.eval (.tmp 21) = .pointer (some ⟨Bx, 1, none⟩)
  t2 : g 2 = true → a.eval (.tmp 22) = .slice A lr.length c
  t3 : g 3 = true → Own w n₀ (a.eval (.tmp 23)) (l ++ lr)
  t4 : g 4 = true → a.eval (.tmp 24) = vi
  t5 : g 5 = true → a.eval (.tmp 25) = .pointer (some ⟨Bx, 0, none⟩)
  t6 : g 6 = true → a.eval (.tmp 26) = .int .i64 id
  t7 : g 7 = true → g 8 = false → ∃ q, a.eval (.tmp 27) = .slice (some ⟨q, 0, none⟩) 1 1 ∧ Blk w q 3 #[.int .i64 id]
  t8 : g 8 = true → LO intE 3 w n₀ (a.eval (.tmp 28)) (ids ++ [id])
  o3 : g 3 = false → Own w n₀ vl l ∧ RS w w.heap.size A lr
  o8 : g 8 = false → LO intE 3 w n₀ vi ids
  c7 : ∃ x, Blk w b7 22 #[x] ∧ (g 9 = false → x = vl) ∧ (g 9 = true → x = a.eval (.tmp 23))
  c8 : ∃ y, Blk w b8 28 #[y] ∧ (g 10 = false → y = vi) ∧ (g 10 = true → y = a.eval (.tmp 28))
  link : Blk w Bx 94 #[.int .i64 id, .slice A lr.length c, .int .i64 er]
  b4 : Blk w b4 22 #[.slice none 0 0]
  b5 : Blk w b5 28 #[.slice none 0 0]
  b6 : Blk w b6 29 #[.int .i64 0]
  below : Below n₀ w0 w
  blk : ∀ (k : Nat) (t : TypeId) (cs : Array Value), Blk w0 k t cs → bodyT t = false → Blk w k t cs
  oth : Oth_ w0 w
section
variable {n₀ b4 b5 b6 b7 b8 Bx : Nat} {l lr : List Run} {ids : List Int} {id er : Int} {A : Option Addr} {c : Nat} {vl vi : Value} {w0 : World} {g : Nat → Bool} {a : Act} {w w' : World}
theorem St.s0 (hI : St n₀ b4 b5 b6 b7 b8 Bx l lr ids id er A c vl vi w0 g a w) : St n₀ b4 b5 b6 b7 b8 Bx l lr ids id er A c vl vi w0 (upd g 0) (a.put (some 20) (vl)) w where
  hn := hI.hn
  sz := by rw [put_size]; exact hI.sz
  fx := by rw [ev_ne a 20 7 _ (by decide), ev_ne a 20 8 _ (by decide), ev_ne a 20 9 _ (by decide)]; exact hI.fx
  d3 := fun h => ⟨upd_le (hI.d3 h).1, upd_le (hI.d3 h).2⟩
  d8 := fun h => ⟨upd_le (hI.d8 h).1, upd_le (hI.d8 h).2⟩
  d9 := hI.d9
  d10 := hI.d10
  t0 := fun _ => ev_same _ _ _ (by rw [hI.sz]; decide)
  t1 := fun h => by rw [ev_ne _ _ _ _ (by decide)]; exact hI.t1 h
  t2 := fun h => by rw [ev_ne _ _ _ _ (by decide)]; exact hI.t2 h
  t3 := fun h => by rw [ev_ne _ _ _ _ (by decide)]; exact hI.t3 h
  t4 := fun h => by rw [ev_ne _ _ _ _ (by decide)]; exact hI.t4 h
  t5 := fun h => by rw [ev_ne _ _ _ _ (by decide)]; exact hI.t5 h
  t6 := fun h => by rw [ev_ne _ _ _ _ (by decide)]; exact hI.t6 h
  t7 := fun h h8 => by rw [ev_ne _ _ _ _ (by decide)]; exact hI.t7 h h8
  t8 := fun h => by rw [ev_ne _ _ _ _ (by decide)]; exact hI.t8 h
  o3 := hI.o3
  o8 := hI.o8
  c7 := by rw [ev_ne _ _ _ _ (by decide)]; exact hI.c7
  c8 := by rw [ev_ne _ _ _ _ (by decide)]; exact hI.c8
  link := hI.link
  b4 := hI.b4
  b5 := hI.b5
  b6 := hI.b6
  below := hI.below
  blk := hI.blk
  oth := hI.oth
theorem St.s1 (hI : St n₀ b4 b5 b6 b7 b8 Bx l lr ids id er A c vl vi w0 g a w) : St n₀ b4 b5 b6 b7 b8 Bx l lr ids id er A c vl vi w0 (upd g 1) (a.put (some 21) (.pointer (some ⟨Bx, 1, none⟩))) w where
  hn := hI.hn
  sz := by rw [put_size]; exact hI.sz
  fx := by rw [ev_ne a 21 7 _ (by decide), ev_ne a 21 8 _ (by decide), ev_ne a 21 9 _ (by decide)]; exact hI.fx
  d3 := fun h => ⟨upd_le (hI.d3 h).1, upd_le (hI.d3 h).2⟩
  d8 := fun h => ⟨upd_le (hI.d8 h).1, upd_le (hI.d8 h).2⟩
  d9 := hI.d9
  d10 := hI.d10
  t0 := fun h => by rw [ev_ne _ _ _ _ (by decide)]; exact hI.t0 h
  t1 := fun _ => ev_same _ _ _ (by rw [hI.sz]; decide)
  t2 := fun h => by rw [ev_ne _ _ _ _ (by decide)]; exact hI.t2 h
  t3 := fun h => by rw [ev_ne _ _ _ _ (by decide)]; exact hI.t3 h
  t4 := fun h => by rw [ev_ne _ _ _ _ (by decide)]; exact hI.t4 h
  t5 := fun h => by rw [ev_ne _ _ _ _ (by decide)]; exact hI.t5 h
  t6 := fun h => by rw [ev_ne _ _ _ _ (by decide)]; exact hI.t6 h
  t7 := fun h h8 => by rw [ev_ne _ _ _ _ (by decide)]; exact hI.t7 h h8
  t8 := fun h => by rw [ev_ne _ _ _ _ (by decide)]; exact hI.t8 h
  o3 := hI.o3
  o8 := hI.o8
  c7 := by rw [ev_ne _ _ _ _ (by decide)]; exact hI.c7
  c8 := by rw [ev_ne _ _ _ _ (by decide)]; exact hI.c8
  link := hI.link
  b4 := hI.b4
  b5 := hI.b5
  b6 := hI.b6
  below := hI.below
  blk := hI.blk
  oth := hI.oth
theorem St.s2 (hI : St n₀ b4 b5 b6 b7 b8 Bx l lr ids id er A c vl vi w0 g a w) : St n₀ b4 b5 b6 b7 b8 Bx l lr ids id er A c vl vi w0 (upd g 2) (a.put (some 22) (.slice A lr.length c)) w where
  hn := hI.hn
  sz := by rw [put_size]; exact hI.sz
  fx := by rw [ev_ne a 22 7 _ (by decide), ev_ne a 22 8 _ (by decide), ev_ne a 22 9 _ (by decide)]; exact hI.fx
  d3 := fun h => ⟨upd_le (hI.d3 h).1, upd_le (hI.d3 h).2⟩
  d8 := fun h => ⟨upd_le (hI.d8 h).1, upd_le (hI.d8 h).2⟩
  d9 := hI.d9
  d10 := hI.d10
  t0 := fun h => by rw [ev_ne _ _ _ _ (by decide)]; exact hI.t0 h
  t1 := fun h => by rw [ev_ne _ _ _ _ (by decide)]; exact hI.t1 h
  t2 := fun _ => ev_same _ _ _ (by rw [hI.sz]; decide)
  t3 := fun h => by rw [ev_ne _ _ _ _ (by decide)]; exact hI.t3 h
  t4 := fun h => by rw [ev_ne _ _ _ _ (by decide)]; exact hI.t4 h
  t5 := fun h => by rw [ev_ne _ _ _ _ (by decide)]; exact hI.t5 h
  t6 := fun h => by rw [ev_ne _ _ _ _ (by decide)]; exact hI.t6 h
  t7 := fun h h8 => by rw [ev_ne _ _ _ _ (by decide)]; exact hI.t7 h h8
  t8 := fun h => by rw [ev_ne _ _ _ _ (by decide)]; exact hI.t8 h
  o3 := hI.o3
  o8 := hI.o8
  c7 := by rw [ev_ne _ _ _ _ (by decide)]; exact hI.c7
  c8 := by rw [ev_ne _ _ _ _ (by decide)]; exact hI.c8
  link := hI.link
  b4 := hI.b4
  b5 := hI.b5
  b6 := hI.b6
  below := hI.below
  blk := hI.blk
  oth := hI.oth
theorem St.s4 (hI : St n₀ b4 b5 b6 b7 b8 Bx l lr ids id er A c vl vi w0 g a w) : St n₀ b4 b5 b6 b7 b8 Bx l lr ids id er A c vl vi w0 (upd g 4) (a.put (some 24) (vi)) w where
  hn := hI.hn
  sz := by rw [put_size]; exact hI.sz
  fx := by rw [ev_ne a 24 7 _ (by decide), ev_ne a 24 8 _ (by decide), ev_ne a 24 9 _ (by decide)]; exact hI.fx
  d3 := fun h => ⟨upd_le (hI.d3 h).1, upd_le (hI.d3 h).2⟩
  d8 := fun h => ⟨upd_le (hI.d8 h).1, upd_le (hI.d8 h).2⟩
  d9 := hI.d9
  d10 := hI.d10
  t0 := fun h => by rw [ev_ne _ _ _ _ (by decide)]; exact hI.t0 h
  t1 := fun h => by rw [ev_ne _ _ _ _ (by decide)]; exact hI.t1 h
  t2 := fun h => by rw [ev_ne _ _ _ _ (by decide)]; exact hI.t2 h
  t3 := fun h => by rw [ev_ne _ _ _ _ (by decide)]; exact hI.t3 h
  t4 := fun _ => ev_same _ _ _ (by rw [hI.sz]; decide)
  t5 := fun h => by rw [ev_ne _ _ _ _ (by decide)]; exact hI.t5 h
  t6 := fun h => by rw [ev_ne _ _ _ _ (by decide)]; exact hI.t6 h
  t7 := fun h h8 => by rw [ev_ne _ _ _ _ (by decide)]; exact hI.t7 h h8
  t8 := fun h => by rw [ev_ne _ _ _ _ (by decide)]; exact hI.t8 h
  o3 := hI.o3
  o8 := hI.o8
  c7 := by rw [ev_ne _ _ _ _ (by decide)]; exact hI.c7
  c8 := by rw [ev_ne _ _ _ _ (by decide)]; exact hI.c8
  link := hI.link
  b4 := hI.b4
  b5 := hI.b5
  b6 := hI.b6
  below := hI.below
  blk := hI.blk
  oth := hI.oth
theorem St.s5 (hI : St n₀ b4 b5 b6 b7 b8 Bx l lr ids id er A c vl vi w0 g a w) : St n₀ b4 b5 b6 b7 b8 Bx l lr ids id er A c vl vi w0 (upd g 5) (a.put (some 25) (.pointer (some ⟨Bx, 0, none⟩))) w where
  hn := hI.hn
  sz := by rw [put_size]; exact hI.sz
  fx := by rw [ev_ne a 25 7 _ (by decide), ev_ne a 25 8 _ (by decide), ev_ne a 25 9 _ (by decide)]; exact hI.fx
  d3 := fun h => ⟨upd_le (hI.d3 h).1, upd_le (hI.d3 h).2⟩
  d8 := fun h => ⟨upd_le (hI.d8 h).1, upd_le (hI.d8 h).2⟩
  d9 := hI.d9
  d10 := hI.d10
  t0 := fun h => by rw [ev_ne _ _ _ _ (by decide)]; exact hI.t0 h
  t1 := fun h => by rw [ev_ne _ _ _ _ (by decide)]; exact hI.t1 h
  t2 := fun h => by rw [ev_ne _ _ _ _ (by decide)]; exact hI.t2 h
  t3 := fun h => by rw [ev_ne _ _ _ _ (by decide)]; exact hI.t3 h
  t4 := fun h => by rw [ev_ne _ _ _ _ (by decide)]; exact hI.t4 h
  t5 := fun _ => ev_same _ _ _ (by rw [hI.sz]; decide)
  t6 := fun h => by rw [ev_ne _ _ _ _ (by decide)]; exact hI.t6 h
  t7 := fun h h8 => by rw [ev_ne _ _ _ _ (by decide)]; exact hI.t7 h h8
  t8 := fun h => by rw [ev_ne _ _ _ _ (by decide)]; exact hI.t8 h
  o3 := hI.o3
  o8 := hI.o8
  c7 := by rw [ev_ne _ _ _ _ (by decide)]; exact hI.c7
  c8 := by rw [ev_ne _ _ _ _ (by decide)]; exact hI.c8
  link := hI.link
  b4 := hI.b4
  b5 := hI.b5
  b6 := hI.b6
  below := hI.below
  blk := hI.blk
  oth := hI.oth
theorem St.s6 (hI : St n₀ b4 b5 b6 b7 b8 Bx l lr ids id er A c vl vi w0 g a w) : St n₀ b4 b5 b6 b7 b8 Bx l lr ids id er A c vl vi w0 (upd g 6) (a.put (some 26) (.int .i64 id)) w where
  hn := hI.hn
  sz := by rw [put_size]; exact hI.sz
  fx := by rw [ev_ne a 26 7 _ (by decide), ev_ne a 26 8 _ (by decide), ev_ne a 26 9 _ (by decide)]; exact hI.fx
  d3 := fun h => ⟨upd_le (hI.d3 h).1, upd_le (hI.d3 h).2⟩
  d8 := fun h => ⟨upd_le (hI.d8 h).1, upd_le (hI.d8 h).2⟩
  d9 := hI.d9
  d10 := hI.d10
  t0 := fun h => by rw [ev_ne _ _ _ _ (by decide)]; exact hI.t0 h
  t1 := fun h => by rw [ev_ne _ _ _ _ (by decide)]; exact hI.t1 h
  t2 := fun h => by rw [ev_ne _ _ _ _ (by decide)]; exact hI.t2 h
  t3 := fun h => by rw [ev_ne _ _ _ _ (by decide)]; exact hI.t3 h
  t4 := fun h => by rw [ev_ne _ _ _ _ (by decide)]; exact hI.t4 h
  t5 := fun h => by rw [ev_ne _ _ _ _ (by decide)]; exact hI.t5 h
  t6 := fun _ => ev_same _ _ _ (by rw [hI.sz]; decide)
  t7 := fun h h8 => by rw [ev_ne _ _ _ _ (by decide)]; exact hI.t7 h h8
  t8 := fun h => by rw [ev_ne _ _ _ _ (by decide)]; exact hI.t8 h
  o3 := hI.o3
  o8 := hI.o8
  c7 := by rw [ev_ne _ _ _ _ (by decide)]; exact hI.c7
  c8 := by rw [ev_ne _ _ _ _ (by decide)]; exact hI.c8
  link := hI.link
  b4 := hI.b4
  b5 := hI.b5
  b6 := hI.b6
  below := hI.below
  blk := hI.blk
  oth := hI.oth
theorem St.s7 (hI : St n₀ b4 b5 b6 b7 b8 Bx l lr ids id er A c vl vi w0 g a w) : St n₀ b4 b5 b6 b7 b8 Bx l lr ids id er A c vl vi w0 (upd g 7) (a.put (some 27) (.slice (some ⟨w.heap.size, 0, none⟩) 1 1)) (w.alloc (.cells #[.int .i64 id] 3)) where
  hn := hI.hn
  sz := by rw [put_size]; exact hI.sz
  fx := by rw [ev_ne a 27 7 _ (by decide), ev_ne a 27 8 _ (by decide), ev_ne a 27 9 _ (by decide)]; exact hI.fx
  d3 := fun h => ⟨upd_le (hI.d3 h).1, upd_le (hI.d3 h).2⟩
  d8 := fun h => ⟨upd_le (hI.d8 h).1, upd_le (hI.d8 h).2⟩
  d9 := hI.d9
  d10 := hI.d10
  t0 := fun h => by rw [ev_ne _ _ _ _ (by decide)]; exact hI.t0 h
  t1 := fun h => by rw [ev_ne _ _ _ _ (by decide)]; exact hI.t1 h
  t2 := fun h => by rw [ev_ne _ _ _ _ (by decide)]; exact hI.t2 h
  t3 := fun h => by rw [ev_ne _ _ _ _ (by decide)]; exact (show LO runE 62 _ _ _ _ from hI.t3 h).alloc _
  t4 := fun h => by rw [ev_ne _ _ _ _ (by decide)]; exact hI.t4 h
  t5 := fun h => by rw [ev_ne _ _ _ _ (by decide)]; exact hI.t5 h
  t6 := fun h => by rw [ev_ne _ _ _ _ (by decide)]; exact hI.t6 h
  t7 := fun _ _ => ⟨w.heap.size, ev_same _ _ _ (by rw [hI.sz]; decide), Blk.new w _ _⟩
  t8 := fun h => by rw [ev_ne _ _ _ _ (by decide)]; exact (hI.t8 h).alloc _
  o3 := fun h => ⟨(show LO runE 62 _ _ _ _ from (hI.o3 h).1).alloc _, keep_RS (hI.o3 h).2 _⟩
  o8 := fun h => (hI.o8 h).alloc _
  c7 := by rw [ev_ne _ _ _ _ (by decide)]; obtain ⟨x, h1, h2⟩ := hI.c7; exact ⟨x, h1.alloc _, h2⟩
  c8 := by rw [ev_ne _ _ _ _ (by decide)]; obtain ⟨x, h1, h2⟩ := hI.c8; exact ⟨x, h1.alloc _, h2⟩
  link := hI.link.alloc _
  b4 := hI.b4.alloc _
  b5 := hI.b5.alloc _
  b6 := hI.b6.alloc _
  below := hI.below.alloc (Nat.le_trans hI.hn hI.below.size) _
  blk := fun k t cs hb ht => (hI.blk k t cs hb ht).alloc _
  oth := hI.oth.trans (Oth_.below ((Below.refl _ w).alloc (Nat.le_refl _) _))
theorem own_LO {base : Nat} {v : Value} {l : List Run} {w : World} (h : Own w base v l) : LO runE 62 w base v l := h
theorem LO_own {base : Nat} {v : Value} {l : List Run} {w : World} (h : LO runE 62 w base v l) : Own w base v l := h
theorem bodyT_ne {t T : TypeId} (h : bodyT t = false) (hT : bodyT T = true) : t ≠ T := by
  rintro rfl
  rw [h] at hT; cases hT
theorem below_row {base : Nat} {v : Value} {n size e : Nat} {xs : List Value} {w w' : World} (h : w.ownsRow base e size v n xs) (hg : w.grownBy w' v.ownBlock) (hb : base ≤ w.heap.size) : Below base w w' :=
  (Below.refl _ _).grown hg hb fun k hk => (h.lt k hk).1
theorem St.s3 (hI : St n₀ b4 b5 b6 b7 b8 Bx l lr ids id er A c vl vi w0 g a w) (h3 : g 3 = false) (h8 : g 8 = false) (h0 : g 0 = true) (h2 : g 2 = true) {v' : Value} (hown : Own w' n₀ v' (l ++ lr)) (hg : w.grownBy w' vl.ownBlock) : St n₀ b4 b5 b6 b7 b8 Bx l lr ids id er A c vl vi w0 (upd g 3) (a.put (some 23) v') w' := by
  have hr : ∀ r, vl.ownBlock = some r → ∃ cs, Blk w r 62 cs := fun r e => own_obj (hI.o3 h3).1 e
  have hbe := below_row (hI.o3 h3).1 hg (Nat.le_trans hI.hn hI.below.size)
  have h9 : g 9 = false := by
    cases h : g 9 with
    | false => rfl
    | true => have := (hI.d9 h).2; rw [h8] at this; cases this
  have h10 : g 10 = false := by
    cases h : g 10 with
    | false => rfl
    | true => have := hI.d10 h; rw [h9] at this; cases this
  exact {
    hn := hI.hn
    sz := by rw [put_size]; exact hI.sz
    fx := by rw [ev_ne a 23 7 _ (by decide), ev_ne a 23 8 _ (by decide), ev_ne a 23 9 _ (by decide)]; exact hI.fx
    d3 := fun _ => ⟨h0, h2⟩
    d8 := fun h => by have h : g 8 = true := h; rw [h8] at h; cases h
    d9 := fun h => by have h : g 9 = true := h; rw [h9] at h; cases h
    d10 := fun h => by have h : g 10 = true := h; rw [h10] at h; cases h
    t0 := fun h => by rw [ev_ne _ _ _ _ (by decide)]; exact hI.t0 h
    t1 := fun h => by rw [ev_ne _ _ _ _ (by decide)]; exact hI.t1 h
    t2 := fun h => by rw [ev_ne _ _ _ _ (by decide)]; exact hI.t2 h
    t3 := fun _ => by rw [ev_same _ _ _ (by rw [hI.sz]; decide)]; exact hown
    t4 := fun h => by rw [ev_ne _ _ _ _ (by decide)]; exact hI.t4 h
    t5 := fun h => by rw [ev_ne _ _ _ _ (by decide)]; exact hI.t5 h
    t6 := fun h => by rw [ev_ne _ _ _ _ (by decide)]; exact hI.t6 h
    t7 := fun h h8 => by rw [ev_ne _ _ _ _ (by decide)]; obtain ⟨q, e1, e2⟩ := hI.t7 h h8; exact ⟨q, e1, keep_blk hg hr e2 (by decide)⟩
    t8 := fun h => by have h : g 8 = true := h; rw [h8] at h; cases h
    o3 := fun h => by cases h
    o8 := fun h => keep_LO hg hr (hI.o8 h) (by decide)
    c7 := by obtain ⟨x, e1, e2, e3⟩ := hI.c7; exact ⟨x, keep_blk hg hr e1 (by decide), e2, fun h => by have h : g 9 = true := h; rw [h9] at h; cases h⟩
    c8 := by rw [ev_ne _ _ _ _ (by decide)]; obtain ⟨x, e1, e2⟩ := hI.c8; exact ⟨x, keep_blk hg hr e1 (by decide), e2⟩
    link := keep_blk hg hr hI.link (by decide)
    b4 := keep_blk hg hr hI.b4 (by decide)
    b5 := keep_blk hg hr hI.b5 (by decide)
    b6 := keep_blk hg hr hI.b6 (by decide)
    below := hI.below.trans hbe
    blk := fun k t cs hb ht => keep_blk hg hr (hI.blk k t cs hb ht) (bodyT_ne ht (by decide))
    oth := hI.oth.trans (keep_oth hg hr) }
theorem St.s8 (hI : St n₀ b4 b5 b6 b7 b8 Bx l lr ids id er A c vl vi w0 g a w) (h3 : g 3 = true) (h8 : g 8 = false) (h4 : g 4 = true) {v' : Value} (hown : LO intE 3 w' n₀ v' (ids ++ [id])) (hg : w.grownBy w' vi.ownBlock) : St n₀ b4 b5 b6 b7 b8 Bx l lr ids id er A c vl vi w0 (upd g 8) (a.put (some 28) v') w' := by
  have hr : ∀ r, vi.ownBlock = some r → ∃ cs, Blk w r 3 cs := fun r e => own_obj (hI.o8 h8) e
  have hbe := below_row (hI.o8 h8) hg (Nat.le_trans hI.hn hI.below.size)
  have h9 : g 9 = false := by
    cases h : g 9 with
    | false => rfl
    | true => have := (hI.d9 h).2; rw [h8] at this; cases this
  have h10 : g 10 = false := by
    cases h : g 10 with
    | false => rfl
    | true => have := hI.d10 h; rw [h9] at this; cases this
  exact {
    hn := hI.hn
    sz := by rw [put_size]; exact hI.sz
    fx := by rw [ev_ne a 28 7 _ (by decide), ev_ne a 28 8 _ (by decide), ev_ne a 28 9 _ (by decide)]; exact hI.fx
    d3 := hI.d3
    d8 := fun _ => ⟨h3, h4⟩
    d9 := fun h => by have h : g 9 = true := h; rw [h9] at h; cases h
    d10 := fun h => by have h : g 10 = true := h; rw [h10] at h; cases h
    t0 := fun h => by rw [ev_ne _ _ _ _ (by decide)]; exact hI.t0 h
    t1 := fun h => by rw [ev_ne _ _ _ _ (by decide)]; exact hI.t1 h
    t2 := fun h => by rw [ev_ne _ _ _ _ (by decide)]; exact hI.t2 h
    t3 := fun h => by rw [ev_ne _ _ _ _ (by decide)]; exact LO_own (keep_LO hg hr (own_LO (hI.t3 h)) (by decide))
    t4 := fun h => by rw [ev_ne _ _ _ _ (by decide)]; exact hI.t4 h
    t5 := fun h => by rw [ev_ne _ _ _ _ (by decide)]; exact hI.t5 h
    t6 := fun h => by rw [ev_ne _ _ _ _ (by decide)]; exact hI.t6 h
    t7 := fun _ h => by cases h
    t8 := fun _ => by rw [ev_same _ _ _ (by rw [hI.sz]; decide)]; exact hown
    o3 := fun h => by have h : g 3 = false := h; rw [h3] at h; cases h
    o8 := fun h => by cases h
    c7 := by rw [ev_ne _ _ _ _ (by decide)]; obtain ⟨x, e1, e2⟩ := hI.c7; exact ⟨x, keep_blk hg hr e1 (by decide), e2⟩
    c8 := by obtain ⟨x, e1, e2, e3⟩ := hI.c8; exact ⟨x, keep_blk hg hr e1 (by decide), e2, fun h => by have h : g 10 = true := h; rw [h10] at h; cases h⟩
    link := keep_blk hg hr hI.link (by decide)
    b4 := keep_blk hg hr hI.b4 (by decide)
    b5 := keep_blk hg hr hI.b5 (by decide)
    b6 := keep_blk hg hr hI.b6 (by decide)
    below := hI.below.trans hbe
    blk := fun k t cs hb ht => keep_blk hg hr (hI.blk k t cs hb ht) (bodyT_ne ht (by decide))
    oth := hI.oth.trans (keep_oth hg hr) }
theorem St.s9 (hI : St n₀ b4 b5 b6 b7 b8 Bx l lr ids id er A c vl vi w0 g a w) (h3 : g 3 = true) (h8 : g 8 = true) (h10 : g 10 = false) (hne : b7 ≠ b4) (hb7 : n₀ ≤ b7) : St n₀ b4 b5 b6 b7 b8 Bx l lr ids id er A c vl vi w0 (upd g 9) (a.put none undef) (w.setCell ⟨b7, 0, none⟩ (a.eval (.tmp 23))) := by
  obtain ⟨x7, hx7, hx7a, hx7b⟩ := hI.c7
  have hg := grown_set w b7 0 (a.eval (.tmp 23))
  have hr : ∀ r, some b7 = some r → ∃ cs, Blk w r 22 cs := fun r e => by cases e; exact ⟨_, hx7⟩
  exact {
    hn := hI.hn
    sz := by rw [put_size]; exact hI.sz
    fx := hI.fx
    d3 := hI.d3
    d8 := hI.d8
    d9 := fun _ => ⟨h3, h8⟩
    d10 := fun h => by have h : g 10 = true := h; rw [h10] at h; cases h
    t0 := hI.t0
    t1 := hI.t1
    t2 := hI.t2
    t3 := fun h => LO_own (keep_LO hg hr (own_LO (hI.t3 h)) (by decide))
    t4 := hI.t4
    t5 := hI.t5
    t6 := hI.t6
    t7 := fun _ h => by have h : g 8 = false := h; rw [h8] at h; cases h
    t8 := fun h => keep_LO hg hr (hI.t8 h) (by decide)
    o3 := fun h => by have h : g 3 = false := h; rw [h3] at h; cases h
    o8 := fun h => by have h : g 8 = false := h; rw [h8] at h; cases h
    c7 := ⟨a.eval (.tmp 23), by have := hx7.set_ 0 (a.eval (.tmp 23)); simpa using this, fun h => (by cases h), fun _ => rfl⟩
    c8 := by obtain ⟨x, e1, e2⟩ := hI.c8; exact ⟨x, keep_blk hg hr e1 (by decide), e2⟩
    link := keep_blk hg hr hI.link (by decide)
    b4 := hI.b4.far (p := ⟨b7, 0, none⟩) (Ne.symm hne) _
    b5 := keep_blk hg hr hI.b5 (by decide)
    b6 := keep_blk hg hr hI.b6 (by decide)
    below := hI.below.setCell (p := ⟨b7, 0, none⟩) hb7 _
    blk := fun k t cs hb ht => keep_blk hg hr (hI.blk k t cs hb ht) (bodyT_ne ht (by decide))
    oth := hI.oth.trans (keep_oth hg hr) }
theorem St.s10 (hI : St n₀ b4 b5 b6 b7 b8 Bx l lr ids id er A c vl vi w0 g a w) (h8 : g 8 = true) (h9 : g 9 = true) (hne : b8 ≠ b5) (hb8 : n₀ ≤ b8) : St n₀ b4 b5 b6 b7 b8 Bx l lr ids id er A c vl vi w0 (upd g 10) (a.put none undef) (w.setCell ⟨b8, 0, none⟩ (a.eval (.tmp 28))) := by
  obtain ⟨x8, hx8, hx8a, hx8b⟩ := hI.c8
  have h3 := (hI.d9 h9).1
  have hg := grown_set w b8 0 (a.eval (.tmp 28))
  have hr : ∀ r, some b8 = some r → ∃ cs, Blk w r 28 cs := fun r e => by cases e; exact ⟨_, hx8⟩
  exact {
    hn := hI.hn
    sz := by rw [put_size]; exact hI.sz
    fx := hI.fx
    d3 := hI.d3
    d8 := hI.d8
    d9 := hI.d9
    d10 := fun _ => h9
    t0 := hI.t0
    t1 := hI.t1
    t2 := hI.t2
    t3 := fun h => LO_own (keep_LO hg hr (own_LO (hI.t3 h)) (by decide))
    t4 := hI.t4
    t5 := hI.t5
    t6 := hI.t6
    t7 := fun _ h => by have h : g 8 = false := h; rw [h8] at h; cases h
    t8 := fun h => keep_LO hg hr (hI.t8 h) (by decide)
    o3 := fun h => by have h : g 3 = false := h; rw [h3] at h; cases h
    o8 := fun h => by have h : g 8 = false := h; rw [h8] at h; cases h
    c7 := by obtain ⟨x, e1, e2⟩ := hI.c7; exact ⟨x, keep_blk hg hr e1 (by decide), e2⟩
    c8 := ⟨a.eval (.tmp 28), by have := hx8.set_ 0 (a.eval (.tmp 28)); simpa using this, fun h => (by cases h), fun _ => rfl⟩
    link := keep_blk hg hr hI.link (by decide)
    b4 := keep_blk hg hr hI.b4 (by decide)
    b5 := hI.b5.far (p := ⟨b8, 0, none⟩) (Ne.symm hne) _
    b6 := keep_blk hg hr hI.b6 (by decide)
    below := hI.below.setCell (p := ⟨b8, 0, none⟩) hb8 _
    blk := fun k t cs hb ht => keep_blk hg hr (hI.blk k t cs hb ht) (bodyT_ne ht (by decide))
    oth := hI.oth.trans (keep_oth hg hr) }
end
end Go.Proofs.YtlgbcogdogpihaaGreatDoor
namespace Go.Proofs.YtlgbcogdogpihaaGreatDoor
open Go.RowKit Go.Shelf
section
variable {a : Act} {o : Oper} {x y : Operand} {w : World} {ad : Addr} {v : Value}
theorem ld_runs (ho : o.op = .load 22 x) (hx : a.eval x = .pointer (some ad)) (hc : w.cell? ad = some v) : (execOp a.eval o).run Tryz.prog w = .ok (.value v) w := by
  unfold execOp
  simp only [ho, hx]
  simp [go_sem, hc]
theorem ld_ints (ho : o.op = .load 28 x) (hx : a.eval x = .pointer (some ad)) (hc : w.cell? ad = some v) : (execOp a.eval o).run Tryz.prog w = .ok (.value v) w := by
  unfold execOp
  simp only [ho, hx]
  simp [go_sem, hc]
theorem ld_int (ho : o.op = .load 3 x) (hx : a.eval x = .pointer (some ad)) (hc : w.cell? ad = some v) : (execOp a.eval o).run Tryz.prog w = .ok (.value v) w := by
  unfold execOp
  simp only [ho, hx]
  simp [go_sem, hc]
theorem fa_link1 {b : Nat} (ho : o.op = .fieldAddr 94 x 1) (hx : a.eval x = .pointer (some ⟨b, 0, none⟩)) : (execOp a.eval o).run Tryz.prog w = .ok (.value (.pointer (some ⟨b, 1, none⟩))) w := by
  unfold execOp
  simp only [ho, hx]
  simp [go_sem]
theorem fa_link0 {b : Nat} (ho : o.op = .fieldAddr 94 x 0) (hx : a.eval x = .pointer (some ⟨b, 0, none⟩)) : (execOp a.eval o).run Tryz.prog w = .ok (.value (.pointer (some ⟨b, 0, none⟩))) w := by
  unfold execOp
  simp only [ho, hx]
  simp [go_sem]
theorem bs_int {z : Int} (ho : o.op = .buildSlice 28 1 #[(0, x)]) (hx : a.eval x = .int .i64 z) : (execOp a.eval o).run Tryz.prog w = .ok (.value (.slice (some ⟨w.heap.size, 0, none⟩) 1 1)) (w.alloc (.cells #[.int .i64 z] 3)) := by
  unfold execOp
  simp only [ho, List.map_toArray, List.map_cons, List.map_nil, hx]
  simp [go_sem]
theorem st_runs {A : Option Addr} {n c : Nat} {u : Value} (ho : o.op = .store 22 x y) (hx : a.eval x = .pointer (some ad)) (hy : a.eval y = .slice A n c) (hc : w.cell? ad = some u) (hf : w.frozen? ad = false) : (execOp a.eval o).run Tryz.prog w = .ok .skip (w.setCell ad (.slice A n c)) := by
  unfold execOp
  simp only [ho, hx, hy]
  simp [go_sem, hc, hf]
theorem st_ints {A : Option Addr} {n c : Nat} {u : Value} (ho : o.op = .store 28 x y) (hx : a.eval x = .pointer (some ad)) (hy : a.eval y = .slice A n c) (hc : w.cell? ad = some u) (hf : w.frozen? ad = false) : (execOp a.eval o).run Tryz.prog w = .ok .skip (w.setCell ad (.slice A n c)) := by
  unfold execOp
  simp only [ho, hx, hy]
  simp [go_sem, hc, hf]
theorem ap_any {t : TypeId} {u u' : Value} {w' : World} (ho : o.op = .call { callee := .builtin .append, args := #[x, y], argTypes := #[t, t] }) (hx : a.eval x = u) (hy : a.eval y = v) (hr : (Builtin.append_ #[t, t] o.type #[u, v]).run Tryz.prog w = .ok u' w') : (execOp a.eval o).run Tryz.prog w = .ok (.value u') w' := by
  unfold execOp
  simp only [ho, resolve, invoke, builtin, Sem.run_bind, Sem.run_pure, Result.andThen_ok, List.map_toArray, List.map_cons, List.map_nil, hx, hy, hr]
end
end Go.Proofs.YtlgbcogdogpihaaGreatDoor
namespace Go.Proofs.YtlgbcogdogpihaaGreatDoor
open Go.RowKit Go.Shelf
attribute [local go_sem] Oper.semAt_some
/-- what chain.Read tells of what it meets -/
def crRes (T : List Lnk) : List Run × List Int × Int :=
  match T.find? (fun y => decide (y.2.2 ≠ 0)) with
  | some y => ([], [], y.2.2)
  | none => (Rp.norm (T.flatMap (fun y => y.2.1)), T.map (fun y => y.1), 0)
def CREnd (B f d kk : Nat) (R : List Run × List Int × Int) (DT : Dk) (w : World) (e : Ending) (w' : World) : Prop :=
  ∃ v u, e = .returned (.tuple #[v, u, .int .i64 R.2.2]) ∧ Own w' w.heap.size v R.1 ∧ LO intE 3 w' w.heap.size u R.2.1 ∧ FAt w' B f d kk DT ∧ Below B w w' ∧ Kept w w'
theorem chL_last {n : Nat} {down : Bool} {pg : Int → Option (Nat × Bs)} (k : Nat) (met : List Int) (id : Int) {u rest : List Lnk} {y : Lnk} (h : chL n down pg k met id = u ++ y :: rest) (hy : y.2.2 ≠ 0) : rest = [] := by
  induction k generalizing met id u with
  | zero => simp [chL] at h
  | succ k ih =>
    by_cases h0 : id = 0
    · subst h0; rw [chL_zero] at h; simp at h
    · by_cases hm : id ∈ met
      · rw [chL_met h0 hm] at h
        cases u with
        | nil => exact (List.cons.inj h).2.symm
        | cons a u => have := (List.cons.inj h).2; simp at this
      · rw [chL_step h0 hm rfl] at h
        cases u with
        | nil =>
          obtain ⟨h1, h2⟩ := List.cons.inj h
          rw [← h1] at hy
          rw [if_neg hy] at h2
          exact h2.symm
        | cons a u =>
          obtain ⟨h1, h2⟩ := List.cons.inj h
          split at h2
          · exact ih _ _ h2
          · simp at h2
theorem chL_len {n : Nat} {down : Bool} {pg : Int → Option (Nat × Bs)} (k : Nat) (met : List Int) (id : Int) : (chL n down pg k met id).length ≤ k := by
  induction k generalizing met id with
  | zero => simp [chL]
  | succ k ih =>
    by_cases h0 : id = 0
    · subst h0; rw [chL_zero]; simp
    · by_cases hm : id ∈ met
      · rw [chL_met h0 hm]; simp
      · rw [chL_step h0 hm rfl, List.length_cons]
        split
        · have := ih (id :: met) (fo n down id (pg id)).2; omega
        · simp
/-- how it stands behind the round's first words -/
def AxR (n₀ f : Nat) (head : Int) (T : List Lnk) (xs : List LnkV) (a' : Act) (W : World) : Prop := ∃ (pre : List LnkV) (id : Int) (lr : List Run) (er : Int) (A : Option Addr) (c Bx : Nat), xs = pre ++ [((id, lr, er), .slice A lr.length c)] ∧ n₀ ≤ Bx ∧
  Blk W Bx 94 #[.int .i64 id, .slice A lr.length c, .int .i64 er] ∧ Own W (n₀ + 1 + 1 + 1 + 1 + 1 + 1 + 1) (.slice A lr.length c) lr ∧ lr.length ≤ 29 ∧ xs.map (·.1) <+: T ∧
  a' = { tmps := #[.pointer (some ⟨f, 0, none⟩), .int .i64 head, undef, undef, .pointer (some ⟨n₀, 0, none⟩), .pointer (some ⟨n₀ + 1, 0, none⟩), .pointer (some ⟨n₀ + 1 + 1, 0, none⟩), .pointer (some ⟨n₀ + 1 + 1 + 1, 0, none⟩), .pointer (some ⟨n₀ + 1 + 1 + 1 + 1, 0, none⟩), .pointer (some ⟨Bx, 0, none⟩), .pointer (some ⟨f, 0, none⟩), .pointer (some ⟨f, 0, none⟩), .int .i64 head, .func (.func 86) #[] #[.pointer (some ⟨n₀ + 1 + 1 + 1 + 1 + 1 + 1, 0, none⟩), .pointer (some ⟨n₀ + 1 + 1 + 1 + 1 + 1, 0, none⟩)], .agg #[.int .i64 id, .slice A lr.length c, .int .i64 er], undef, undef, undef, undef, undef, undef, undef, undef, undef, undef, undef, undef, undef, undef, undef, undef, undef], defers := [] }
theorem kpL_put {n₀ : Nat} {w : World} (hn : n₀ ≤ w.heap.size) (W : World) (l : Nat) (o o' : Obj) (hl : w.heap.size ≤ l) (h : W.heap[l]? = some o) (hc : o.isCells = false) (hw : o.isWalk = false) : KpL n₀ W (W.putObj l o') :=
  ⟨belowK_b hn W l o o' hl h hc hw, fun g t cs hb _ => by
    have hne : l ≠ g := fun e => by subst e; unfold Blk at hb; rw [h] at hb; injection hb with e; subst e; cases hc
    unfold Blk at *
    simp [World.putObj, hne, hb], fun m es c hm => by
    have hne : l ≠ m := fun e => by subst e; rw [h] at hm; injection hm with e; subst e; cases hw
    simp [World.putObj, hne, hm]⟩
theorem kpL_t {n₀ : Nat} {A B C : World} (h : KpL n₀ A B) (k : KpL n₀ B C) : KpL n₀ A C := ⟨h.below.trans k.below, fun g t cs hb ht => k.blk g t cs (h.blk g t cs hb ht) ht, h.maps.trans k.maps⟩
theorem keepF_put (W : World) (l : Nat) (o o' : Obj) (h : W.heap[l]? = some o) (hc : o.isCells = false) (hw : o.isWalk = false) : KeepF W (W.putObj l o') :=
  ⟨fun g t cs hb _ => by
    have hne : l ≠ g := fun e => by subst e; unfold Blk at hb; rw [h] at hb; injection hb with e; subst e; cases hc
    unfold Blk at *
    simp [World.putObj, hne, hb], fun m es c hm => by
    have hne : l ≠ m := fun e => by subst e; rw [h] at hm; injection hm with e; subst e; cases hw
    simp [World.putObj, hne, hm]⟩
theorem blk_nc2 {W W' : World} {g : Nat} {ty : TypeId} {cs : Array Value} {row : Option Nat} (h : Blk W g ty cs) (hg : W.grownBy W' row) (hr : ∀ r, row = some r → ∃ o : Obj, W.heap[r]? = some o ∧ o.isCells = false) : Blk W' g ty cs := by
  refine (hg.block g h.lt ?_).trans h
  intro e
  obtain ⟨o, ho, hne⟩ := hr g e.symm
  unfold Blk at h
  rw [h] at ho; cases ho
  cases hne
theorem LO.nc2 {α : Type} {E : Enc α} {ty : TypeId} {W W' : World} {base : Nat} {v : Value} {l : List α} {row : Option Nat} (h : LO E ty W base v l) (hg : W.grownBy W' row) (hr : ∀ r, row = some r → ∃ o : Obj, W.heap[r]? = some o ∧ o.isCells = false) : LO E ty W' base v l :=
  h.keep hg fun r e => by
    obtain ⟨o, ho, hne⟩ := hr r e
    exact ⟨o, ho, fun cs e => by rw [e] at hne; cases hne⟩
/-- what is collected behind some rounds -/
structure Coll (B n₀ : Nat) (w : World) (pre : List LnkV) (W : World) : Prop where
  ok : ∀ x ∈ pre, x.1.2.2 = 0
  short : (pre.flatMap (fun x => x.1.2.1)).length ≤ 29 * pre.length
  c7 : ∃ v, Blk W (n₀ + 1 + 1 + 1) 22 #[v] ∧ Own W n₀ v (pre.flatMap (fun x => x.1.2.1))
  c8 : ∃ v, Blk W (n₀ + 1 + 1 + 1 + 1) 28 #[v] ∧ LO intE 3 W n₀ v (pre.map (fun x => x.1.1))
  b4 : Blk W n₀ 22 #[.slice none 0 0]
  b5 : Blk W (n₀ + 1) 28 #[.slice none 0 0]
  b6 : Blk W (n₀ + 1 + 1) 29 #[.int .i64 0]
  below : Below B w W
  kept : Kept w W
structure CollX (B n₀ : Nat) (w : World) (pre : List LnkV) (W : World) : Prop where
  last : ∃ pre' x, pre = pre' ++ [x] ∧ (∀ x ∈ pre', x.1.2.2 = 0) ∧ x.1.2.2 ≠ 0 ∧ Blk W (n₀ + 1 + 1) 29 #[.int .i64 x.1.2.2]
  b4 : Blk W n₀ 22 #[.slice none 0 0]
  b5 : Blk W (n₀ + 1) 28 #[.slice none 0 0]
  below : Below B w W
  kept : Kept w W
section
variable {B n₀ : Nat} {w W W' : World} {pre : List LnkV}
theorem Coll.own (hBn : B ≤ n₀) : OwnFrom n₀ (Coll B n₀ w) := fun s X Y row h hg hr =>
  have hr2 := fun r e => (hr r e).2
  { ok := h.ok, short := h.short
    c7 := by obtain ⟨v, h1, h2⟩ := h.c7; exact ⟨v, blk_nc2 h1 hg hr2, LO_own ((own_LO h2).nc2 hg hr2)⟩
    c8 := by obtain ⟨v, h1, h2⟩ := h.c8; exact ⟨v, blk_nc2 h1 hg hr2, h2.nc2 hg hr2⟩
    b4 := blk_nc2 h.b4 hg hr2, b5 := blk_nc2 h.b5 hg hr2, b6 := blk_nc2 h.b6 hg hr2
    below := h.below.grown hg (by have := h.b4.lt; omega) (fun r e => by have := (hr r e).1; omega)
    kept := fun g t cs hb h1 h2 => blk_nc2 (h.kept g t cs hb h1 h2) hg hr2 }
theorem CollX.own (hBn : B ≤ n₀) : OwnFrom n₀ (CollX B n₀ w) := fun s X Y row h hg hr =>
  have hr2 := fun r e => (hr r e).2
  { last := by obtain ⟨p, x, h1, h2, h3, h4⟩ := h.last; exact ⟨p, x, h1, h2, h3, blk_nc2 h4 hg hr2⟩
    b4 := blk_nc2 h.b4 hg hr2, b5 := blk_nc2 h.b5 hg hr2
    below := h.below.grown hg (by have := h.b4.lt; omega) (fun r e => by have := (hr r e).1; omega)
    kept := fun g t cs hb h1 h2 => blk_nc2 (h.kept g t cs hb h1 h2) hg hr2 }
theorem Coll.ab (h : Coll B n₀ w pre W) (hg : AbL B W W') : Coll B n₀ w pre W' :=
  { ok := h.ok, short := h.short
    c7 := by obtain ⟨v, h1, h2⟩ := h.c7; exact ⟨v, hg.kept _ _ _ h1 (by decide) (by decide), LO_own ((own_LO h2).kept hg.kept (by decide) (by decide))⟩
    c8 := by obtain ⟨v, h1, h2⟩ := h.c8; exact ⟨v, hg.kept _ _ _ h1 (by decide) (by decide), h2.kept hg.kept (by decide) (by decide)⟩
    b4 := hg.kept _ _ _ h.b4 (by decide) (by decide), b5 := hg.kept _ _ _ h.b5 (by decide) (by decide), b6 := hg.kept _ _ _ h.b6 (by decide) (by decide)
    below := h.below.trans hg.below
    kept := h.kept.trans hg.kept }
theorem CollX.ab (h : CollX B n₀ w pre W) (hg : AbL B W W') : CollX B n₀ w pre W' :=
  { last := by obtain ⟨p, x, h1, h2, h3, h4⟩ := h.last; exact ⟨p, x, h1, h2, h3, hg.kept _ _ _ h4 (by decide) (by decide)⟩
    b4 := hg.kept _ _ _ h.b4 (by decide) (by decide), b5 := hg.kept _ _ _ h.b5 (by decide) (by decide)
    below := h.below.trans hg.below
    kept := h.kept.trans hg.kept }
end
theorem put_row {W : World} {Dd : Nat} {o : Obj} (hK : W.heap[Dd]? = some o) (hc : o.isCells = false) : ∀ r, some Dd = some r → ∃ o : Obj, W.heap[r]? = some o ∧ o.isCells = false := fun r e => by
  cases e; exact ⟨o, hK, hc⟩
/-- what lies behind the last words -/
theorem cread_end {B f d kk n₀ Dd : Nat} {DT : Dk} {w W w6 : World} {A6 A8 : Option Addr} {c6 c8 : Nat} {s0 : List Run} {li : List Int} (hn0 : w.heap.size = n₀) (hB : B ≤ n₀) (hF : FAt W B f d kk DT) (hbel : Below B w W) (hkep : Kept w W)
    (hb4 : Blk W n₀ 22 #[.slice none 0 0]) (hb5 : Blk W (n₀ + 1) 28 #[.slice none 0 0]) (hb6 : Blk W (n₀ + 1 + 1) 29 #[.int .i64 0])
    (hDd : n₀ ≤ Dd) (o8 : LO intE 3 W n₀ (.slice A8 li.length c8) li) (hK : W.heap[Dd]? = some (.deferred (some []))) (ho6 : Own w6 W.drew.heap.size (.slice A6 s0.length c6) s0) (hb : Below W.drew.heap.size W.drew w6) :
    (((w6.setCell ⟨n₀, 0, none⟩ (.slice A6 s0.length c6)).setCell ⟨n₀ + 1, 0, none⟩ (.slice A8 li.length c8)).setCell ⟨n₀ + 1 + 1, 0, none⟩ (.int .i64 0)).heap[Dd]? = some (.deferred (some [])) ∧
    ∃ W4, W4 = (((w6.setCell ⟨n₀, 0, none⟩ (.slice A6 s0.length c6)).setCell ⟨n₀ + 1, 0, none⟩ (.slice A8 li.length c8)).setCell ⟨n₀ + 1 + 1, 0, none⟩ (.int .i64 0)).putObj Dd (.deferred none) ∧
      Blk W4 n₀ 22 #[.slice A6 s0.length c6] ∧ Blk W4 (n₀ + 1) 28 #[.slice A8 li.length c8] ∧ Blk W4 (n₀ + 1 + 1) 29 #[.int .i64 0] ∧ Own W4 n₀ (.slice A6 s0.length c6) s0 ∧ LO intE 3 W4 n₀ (.slice A8 li.length c8) li ∧ FAt W4 B f d kk DT ∧ Below B w W4 ∧ Kept w W4 := by
  have hnW : n₀ ≤ W.heap.size := Nat.le_of_lt hb4.lt
  have d4 := hb4.drew.below hb hb4.lt
  have d5 := hb5.drew.below hb hb5.lt
  have d6 := hb6.drew.below hb hb6.lt
  have e8 : LO intE 3 w6 n₀ (.slice A8 li.length c8) li := LO.below (show LO intE 3 W.drew n₀ _ _ from o8) hb
  have eF : FAt w6 B f d kk DT := (hF.keepF (w' := W.drew) ⟨fun _ _ _ h _ => h, fun _ _ _ h => h⟩).keep hb
  have eb : Below B w w6 := hbel.drew.trans (hb.mono (Nat.le_trans hB hnW))
  have ek : Kept w w6 := fun g t cs h h1 h2 => ((hkep g t cs h h1 h2).drew).below hb (hkep g t cs h h1 h2).lt
  have eK : w6.heap[Dd]? = some (.deferred (some [])) := Oth_.below hb Dd _ hK rfl
  have o6 : LO runE 62 w6 n₀ (.slice A6 s0.length c6) s0 := LO.lower (own_LO ho6) hnW
  clear hb hF hbel hkep hK o8 hb4 hb5 hb6 ho6
  have m4 : Blk (w6.setCell ⟨n₀, 0, none⟩ (.slice A6 s0.length c6)) n₀ 22 #[.slice A6 s0.length c6] := by have := d4.set_ 0 (.slice A6 s0.length c6); simpa using this
  have m5 : Blk (w6.setCell ⟨n₀, 0, none⟩ (.slice A6 s0.length c6)) (n₀ + 1) 28 #[.slice none 0 0] := d5.far (p := ⟨n₀, 0, none⟩) (show n₀ + 1 ≠ n₀ by omega) _
  have m6 : Blk (w6.setCell ⟨n₀, 0, none⟩ (.slice A6 s0.length c6)) (n₀ + 1 + 1) 29 #[.int .i64 0] := d6.far (p := ⟨n₀, 0, none⟩) (show n₀ + 1 + 1 ≠ n₀ by omega) _
  have g1 := grown_set w6 n₀ 0 (.slice A6 s0.length c6)
  have r1 : ∀ r, some n₀ = some r → ∃ cs, Blk w6 r 22 cs := fun r e => by cases e; exact ⟨_, d4⟩
  have f1 := KeepF.set_ d4 (by decide) 0 (.slice A6 s0.length c6)
  have b1 : Below B w (w6.setCell ⟨n₀, 0, none⟩ (.slice A6 s0.length c6)) := eb.setCell (p := ⟨n₀, 0, none⟩) hB _
  generalize w6.setCell ⟨n₀, 0, none⟩ (.slice A6 s0.length c6) = W1 at *
  have n4 : Blk (W1.setCell ⟨n₀ + 1, 0, none⟩ (.slice A8 li.length c8)) n₀ 22 #[.slice A6 s0.length c6] := m4.far (p := ⟨n₀ + 1, 0, none⟩) (show n₀ ≠ n₀ + 1 by omega) _
  have n5 : Blk (W1.setCell ⟨n₀ + 1, 0, none⟩ (.slice A8 li.length c8)) (n₀ + 1) 28 #[.slice A8 li.length c8] := by have := m5.set_ 0 (.slice A8 li.length c8); simpa using this
  have n6 : Blk (W1.setCell ⟨n₀ + 1, 0, none⟩ (.slice A8 li.length c8)) (n₀ + 1 + 1) 29 #[.int .i64 0] := m6.far (p := ⟨n₀ + 1, 0, none⟩) (show n₀ + 1 + 1 ≠ n₀ + 1 by omega) _
  have g2 := grown_set W1 (n₀ + 1) 0 (.slice A8 li.length c8)
  have r2 : ∀ r, some (n₀ + 1) = some r → ∃ cs, Blk W1 r 28 cs := fun r e => by cases e; exact ⟨_, m5⟩
  have f2 := KeepF.set_ m5 (by decide) 0 (.slice A8 li.length c8)
  have b2 : Below B w (W1.setCell ⟨n₀ + 1, 0, none⟩ (.slice A8 li.length c8)) := b1.setCell (p := ⟨n₀ + 1, 0, none⟩) (show B ≤ n₀ + 1 by omega) _
  generalize W1.setCell ⟨n₀ + 1, 0, none⟩ (.slice A8 li.length c8) = W2 at *
  have q4 : Blk (W2.setCell ⟨n₀ + 1 + 1, 0, none⟩ (.int .i64 0)) n₀ 22 #[.slice A6 s0.length c6] := n4.far (p := ⟨n₀ + 1 + 1, 0, none⟩) (show n₀ ≠ n₀ + 1 + 1 by omega) _
  have q5 : Blk (W2.setCell ⟨n₀ + 1 + 1, 0, none⟩ (.int .i64 0)) (n₀ + 1) 28 #[.slice A8 li.length c8] := n5.far (p := ⟨n₀ + 1 + 1, 0, none⟩) (show n₀ + 1 ≠ n₀ + 1 + 1 by omega) _
  have q6 : Blk (W2.setCell ⟨n₀ + 1 + 1, 0, none⟩ (.int .i64 0)) (n₀ + 1 + 1) 29 #[.int .i64 0] := by have := n6.set_ 0 (.int .i64 0); simpa using this
  have g3 := grown_set W2 (n₀ + 1 + 1) 0 (.int .i64 0)
  have r3 : ∀ r, some (n₀ + 1 + 1) = some r → ∃ cs, Blk W2 r 29 cs := fun r e => by cases e; exact ⟨_, n6⟩
  have f3 := KeepF.set_ n6 (by decide) 0 (.int .i64 0)
  have b3 : Below B w (W2.setCell ⟨n₀ + 1 + 1, 0, none⟩ (.int .i64 0)) := b2.setCell (p := ⟨n₀ + 1 + 1, 0, none⟩) (show B ≤ n₀ + 1 + 1 by omega) _
  have k3 := ((ek.far g1 (by omega)).far g2 (by omega)).far g3 (by omega)
  have hoth := (keep_oth g1 r1).trans ((keep_oth g2 r2).trans (keep_oth g3 r3))
  have p8 := keep_LO g3 r3 (keep_LO g2 r2 (keep_LO g1 r1 e8 (by decide)) (by decide)) (by decide)
  have p6 := keep_LO g3 r3 (keep_LO g2 r2 (keep_LO g1 r1 o6 (by decide)) (by decide)) (by decide)
  generalize W2.setCell ⟨n₀ + 1 + 1, 0, none⟩ (.int .i64 0) = W3 at *
  have hK3 := hoth Dd _ eK rfl
  have hg := grownBy_putObj' W3 Dd (.deferred none)
  have hr := put_row hK3 rfl
  refine ⟨hK3, _, rfl, blk_nc2 q4 hg hr, blk_nc2 q5 hg hr, blk_nc2 q6 hg hr, LO_own (p6.nc2 hg hr), p8.nc2 hg hr, (eF.keepF (f1.trans (f2.trans f3))).keepF (keepF_put W3 Dd _ _ hK3 rfl rfl), b3.grown hg (by have := b3.size; omega) (fun r e => by cases e; omega), fun g t cs h h1 h2 => blk_nc2 (k3 g t cs h h1 h2) hg hr⟩
set_option maxRecDepth 100000 in
set_option maxHeartbeats 4000000 in
theorem cread_any {w : World} {B f d kk N : Nat} {D : Dk} (hFA : FAt w B f d kk D) (hL : Lim D N) (hN : N + 20000 < 1000000) (hT : HT w) (hB0 : 0 < B) (hB : B ≤ w.heap.size) (pg : Int → Option (Nat × Bs))
    (hpg : ∀ id, noPage D.sure.length id = false → D.down = false → PageIs D id (pg id)) (head : Int) (hw : (Lit.int .i64 head).wf = true) :
    Calls Tryz.prog 11 #[.pointer (some ⟨f, 0, none⟩), .int .i64 head] w
      (CREnd B f d kk (crRes (chL D.sure.length D.down pg (D.sure.length + 1) [] head)) (chD D.sure.length D.down pg (D.sure.length + 1) D [] head) w) := by
  obtain ⟨T, hT0⟩ : ∃ T, T = chL D.sure.length D.down pg (D.sure.length + 1) [] head := ⟨_, rfl⟩
  obtain ⟨DT, hD0⟩ : ∃ DT, DT = chD D.sure.length D.down pg (D.sure.length + 1) D [] head := ⟨_, rfl⟩
  rw [← hT0, ← hD0]
  have hlast : ∀ u y rest, T = u ++ y :: rest → y.2.2 ≠ 0 → rest = [] := fun u y rest h hy => chL_last _ _ _ (hT0.symm.trans h) hy
  obtain ⟨R, hR⟩ : ∃ R, R = crRes T := ⟨_, rfl⟩
  rw [← hR]
  have HT0 := Lib.hid hT0
  have HD0 := Lib.hid hD0
  have HR := Lib.hid hR
  have HLAST := Lib.hid hlast
  have HPG := Lib.hid hpg
  clear hT0 hD0 hR hlast hpg
  refine (callsIn_wide (n := 2)).1 ?_
  refine callsIn_of_wp_marks Tryz.func11 rfl trivial ?_ rfl
  simp only [Tryz.ntmps11, List.size_toArray, List.length_cons, List.length_nil, Nat.reduceAdd, Nat.reduceSub, Array.replicate_succ, Array.replicate_zero, List.push_toArray, List.append_toArray, List.nil_append, List.cons_append]
  gi_wp2_with fail
  refine ⟨trivial, (callsIn_wide.2 (cfile_any f _)).mono ?_⟩
  rintro e w1 ⟨rfl, rfl⟩
  gi_wp2_with fail
  refine ⟨trivial, (callsIn_wide.2 (links_any f head _)).mono ?_⟩
  rintro e w1 ⟨rfl, rfl⟩
  gi_wp2_with fail
  have hn := hL.n
  have hM : T.length ≤ 16385 := by have := chL_len (n := D.sure.length) (down := D.down) (pg := pg) (D.sure.length + 1) [] head; rw [← HT0.out] at this; omega
  obtain ⟨n₀, hn0⟩ : ∃ n₀, w.heap.size = n₀ := ⟨_, rfl⟩
  have k4 := Blk.new w 22 #[.slice none 0 0]
  have hb1 : Below w.heap.size w (w.alloc (.cells #[.slice none 0 0] 22)) := (Below.refl _ w).alloc (Nat.le_refl _) _
  have hs1 : (w.alloc (.cells #[.slice none 0 0] 22)).heap.size = n₀ + 1 := by simp [hn0]
  rw [hn0] at k4 hb1 ⊢
  generalize w.alloc (.cells #[.slice none 0 0] 22) = u1 at *
  have k5 := Blk.new u1 28 #[.slice none 0 0]
  have hb2 := hb1.alloc (o := .cells #[.slice none 0 0] 28) (by omega)
  have hs2 : (u1.alloc (.cells #[.slice none 0 0] 28)).heap.size = n₀ + 1 + 1 := by simp [hs1]
  replace k4 := k4.alloc (.cells #[.slice none 0 0] 28)
  rw [hs1] at k5
  generalize u1.alloc (.cells #[.slice none 0 0] 28) = u2 at *
  have k6 := Blk.new u2 29 #[.int .i64 0]
  have hb3 := hb2.alloc (o := .cells #[.int .i64 0] 29) (by omega)
  have hs3 : (u2.alloc (.cells #[.int .i64 0] 29)).heap.size = n₀ + 1 + 1 + 1 := by simp [hs2]
  replace k4 := k4.alloc (.cells #[.int .i64 0] 29)
  replace k5 := k5.alloc (.cells #[.int .i64 0] 29)
  rw [hs2] at k6
  generalize u2.alloc (.cells #[.int .i64 0] 29) = u3 at *
  have k7 := Blk.new u3 22 #[.slice none 0 0]
  have hb4 := hb3.alloc (o := .cells #[.slice none 0 0] 22) (by omega)
  have hs4 : (u3.alloc (.cells #[.slice none 0 0] 22)).heap.size = n₀ + 1 + 1 + 1 + 1 := by simp [hs3]
  replace k4 := k4.alloc (.cells #[.slice none 0 0] 22)
  replace k5 := k5.alloc (.cells #[.slice none 0 0] 22)
  replace k6 := k6.alloc (.cells #[.slice none 0 0] 22)
  rw [hs3] at k7
  generalize u3.alloc (.cells #[.slice none 0 0] 22) = u4 at *
  have k8 := Blk.new u4 28 #[.slice none 0 0]
  have hb5 := hb4.alloc (o := .cells #[.slice none 0 0] 28) (by omega)
  have hs5 : (u4.alloc (.cells #[.slice none 0 0] 28)).heap.size = n₀ + 1 + 1 + 1 + 1 + 1 := by simp [hs4]
  replace k4 := k4.alloc (.cells #[.slice none 0 0] 28)
  replace k5 := k5.alloc (.cells #[.slice none 0 0] 28)
  replace k6 := k6.alloc (.cells #[.slice none 0 0] 28)
  replace k7 := k7.alloc (.cells #[.slice none 0 0] 28)
  rw [hs4] at k8
  generalize u4.alloc (.cells #[.slice none 0 0] 28) = u5 at *
  have kf := Blk.new u5 24 #[.pointer (some ⟨f, 0, none⟩)]
  have hb6 := hb5.alloc (o := .cells #[.pointer (some ⟨f, 0, none⟩)] 24) (by omega)
  have hs6 : (u5.alloc (.cells #[.pointer (some ⟨f, 0, none⟩)] 24)).heap.size = n₀ + 1 + 1 + 1 + 1 + 1 + 1 := by simp [hs5]
  replace k4 := k4.alloc (.cells #[.pointer (some ⟨f, 0, none⟩)] 24)
  replace k5 := k5.alloc (.cells #[.pointer (some ⟨f, 0, none⟩)] 24)
  replace k6 := k6.alloc (.cells #[.pointer (some ⟨f, 0, none⟩)] 24)
  replace k7 := k7.alloc (.cells #[.pointer (some ⟨f, 0, none⟩)] 24)
  replace k8 := k8.alloc (.cells #[.pointer (some ⟨f, 0, none⟩)] 24)
  rw [hs5] at kf
  generalize u5.alloc (.cells #[.pointer (some ⟨f, 0, none⟩)] 24) = u6 at *
  have kh := Blk.new u6 3 #[.int .i64 head]
  have hb7 := hb6.alloc (o := .cells #[.int .i64 head] 3) (by omega)
  have hs7 : (u6.alloc (.cells #[.int .i64 head] 3)).heap.size = n₀ + 1 + 1 + 1 + 1 + 1 + 1 + 1 := by simp [hs6]
  replace k4 := k4.alloc (.cells #[.int .i64 head] 3)
  replace k5 := k5.alloc (.cells #[.int .i64 head] 3)
  replace k6 := k6.alloc (.cells #[.int .i64 head] 3)
  replace k7 := k7.alloc (.cells #[.int .i64 head] 3)
  replace k8 := k8.alloc (.cells #[.int .i64 head] 3)
  replace kf := kf.alloc (.cells #[.int .i64 head] 3)
  rw [hs6] at kh
  generalize u6.alloc (.cells #[.int .i64 head] 3) = u7 at *
  clear hb1 hb2 hb3 hb4 hb5 hb6 hs1 hs2 hs3 hs4 hs5 hs6
  rw [hn0] at hB
  rw [← hn0] at hb7
  have hF7 := hFA.keep hb7
  have hT7 := hT.below (hb7.mono (by omega)) hB0
  rw [hn0] at hb7
  have hseq : SeqX Fence.wide 1 Tryz.prog 86 #[.pointer (some ⟨n₀ + 1 + 1 + 1 + 1 + 1 + 1, 0, none⟩), .pointer (some ⟨n₀ + 1 + 1 + 1 + 1 + 1, 0, none⟩)] lnkE (KpL n₀) (AbL B) (GL (n₀ + 1 + 1 + 1 + 1 + 1 + 1 + 1) T) (SL B f d kk T DT) (SpL B f d kk T DT) T.length u7 := by
    intro l J Jx W hW hJA hJxA hY h0
    have hWs := hW.size
    exact links1_in l B f d kk N n₀ _ _ _ T.length D pg head J Jx (KpL n₀) T DT W HT0.out HD0.out (Nat.le_refl _) (by omega) (hF7.keep hW) hL hN (hT7.below (hW.mono (show 1 ≤ _ by omega)) (by omega)) hB0 (by omega) (by omega) hw HPG.out
      ((hW.cell (by show n₀ + 1 + 1 + 1 + 1 + 1 + 1 < _; omega)).trans (kh.cell 0)) (by omega) (kf.below hW (by omega)) (fun _ _ h => h) hJA hY h0
  have hk0 : Kept w u7 := Kept.below (by rw [hn0]; exact hb7)
  have hcoll0 : Coll B n₀ w [] u7 := ⟨by simp, by simp, ⟨_, k7, Own.nil_ _ _⟩, ⟨_, k8, LO.nil_ _ _⟩, k4, k5, k6, hb7.mono hB, hk0⟩
  refine wpIn_rangeFunc_X rfl (by decide) (gf := 86) rfl trivial (enters_of Tryz.func86 (by kernel_rfl) rfl) hseq kpL_t (kpL_put (by omega)) (fun _ _ k o h => h.oth k o) (fun _ => rfl)
    (Coll B n₀ w) (fun k pre W => k = .ret ∧ CollX B n₀ w pre W)
    (fun s X Y row h hg hr => Coll.own hB s X Y row h hg (fun r e => ⟨by have := (hr r e).1; omega, (hr r e).2⟩))
    (fun _ s X Y row h hg hr => ⟨h.1, CollX.own hB s X Y row h.2 hg (fun r e => ⟨by have := (hr r e).1; omega, (hr r e).2⟩)⟩)
    (fun _ _ _ h hg => h.ab hg) (fun _ _ _ _ h hg => ⟨h.1, h.2.ab hg⟩)
    (fun s W l o o' h _ ho h1 h2 => ⟨h.1, h.2.keepF (keepF_put W l o o' ho h1 h2)⟩)
    (fun s W l o o' h _ ho h1 h2 => ⟨h.1, by obtain ⟨Dj, h3, h4⟩ := h.2; exact ⟨Dj, h3.keepF (keepF_put W l o o' ho h1 h2), h4⟩⟩)
    hcoll0 (AxR n₀ f head T)
    (fun a' s X Y row h hg hr => by
      obtain ⟨p, id, lr, er, A, c, Bx, h1, h2, h3, h4, h5⟩ := h
      exact ⟨p, id, lr, er, A, c, Bx, h1, h2, blk_nc2 h3 hg (fun r e => (hr r e).2), LO_own ((own_LO h4).nc2 hg (fun r e => (hr r e).2)), h5⟩)
    ?assign ?body ?done ?stop
  case assign =>
    rintro lp pre ⟨⟨id, lr, er⟩, v⟩ W K hI ⟨p2, x2, he, ho, hl29, hpx⟩ hK
    obtain ⟨he1, he2⟩ := List.append_inj' he rfl
    cases he2
    simp only at ho hl29
    obtain ⟨A, c, rfl⟩ := ho.form
    unfold lnkE
    gi_wp2
    have hnW : n₀ ≤ W.heap.size := Nat.le_of_lt hI.b4.lt
    have hbA : Below W.heap.size W (W.alloc (.cells #[.int .i64 id, .slice A lr.length c, .int .i64 er] 94)) := (Below.refl _ W).alloc (Nat.le_refl _) _
    exact hK _ _ ((KeepsOthers.alloc _ _).from _) ⟨hbA.mono hnW, fun _ _ _ h _ => h.alloc _, (Oth_.below hbA).maps⟩ (OwnFrom.alloc (Coll.own hB) _ hI) ⟨pre, id, lr, er, A, c, W.heap.size, rfl, hnW, Blk.new _ _ _, LO_own ((own_LO ho).alloc _), hl29, hpx, rfl⟩
  case body =>
    rintro lp pre x a' W hlp hI ⟨p2, id, lr, er, A, c, Bx, he, hBx, hbl, hown, hl29, hpx, rfl⟩ hlt
    obtain ⟨he1, he2⟩ := List.append_inj' he rfl
    subst he1
    cases he2
    have x2 := hbl.cell 2
    have hnW : n₀ ≤ W.heap.size := Nat.le_of_lt hI.b4.lt
    by_cases her : er = 0
    · subst her
      obtain ⟨vl, k7, o7⟩ := hI.c7
      obtain ⟨vi, k8, o8⟩ := hI.c8
      gi_wp2
      refine wpIn_region_any (by kernel_rfl) (wpAnyIn_inv (fun L a1 w1 => L.size = 11 ∧ St n₀ n₀ (n₀ + 1) (n₀ + 1 + 1) (n₀ + 1 + 1 + 1) (n₀ + 1 + 1 + 1 + 1) Bx (pre.flatMap (fun x => x.1.2.1)) lr (pre.map (fun x => x.1.1)) id 0 A c vl vi W (fun i => L.getD i false) a1 w1) ?d7 ?s7 _ _ _ _ ?i7 rfl ?c7)
      case i7 => exact ⟨rfl, { hn := hnW, sz := rfl, fx := ⟨rfl, rfl, rfl⟩, d3 := fun h => (by cases h), d8 := fun h => (by cases h), d9 := fun h => (by cases h), d10 := fun h => (by cases h), t0 := fun h => (by cases h), t1 := fun h => (by cases h), t2 := fun h => (by cases h), t3 := fun h => (by cases h), t4 := fun h => (by cases h), t5 := fun h => (by cases h), t6 := fun h => (by cases h), t7 := fun h => (by cases h), t8 := fun h => (by cases h), o3 := fun _ => ⟨o7, hown.rs⟩, o8 := fun _ => o8, c7 := ⟨_, k7, fun _ => rfl, fun h => (by cases h)⟩, c8 := ⟨_, k8, fun _ => rfl, fun h => (by cases h)⟩, link := hbl, b4 := hI.b4, b5 := hI.b5, b6 := hI.b6, below := (Below.refl n₀ W).drew, blk := fun _ _ _ h _ => h, oth := Oth_.refl _ }⟩
      case c7 => decide
      case d7 =>
        rintro L a1 w1 ⟨hLs, hS⟩ hr
        have hall := ready_all hr hLs rfl
        have p3 := hall 3 (by decide)
        have p8 := hall 8 (by decide)
        have p9 := hall 9 (by decide)
        have p10 := hall 10 (by decide)
        obtain ⟨x7, q7, _, q7b⟩ := hS.c7
        obtain ⟨x8, q8, _, q8b⟩ := hS.c8
        have o7n := hS.t3 p3
        have o8n := hS.t8 p8
        rw [← q7b p9] at o7n
        rw [← q8b p10] at o8n
        have hshort : ((pre ++ [(((id, lr, 0), .slice A lr.length c) : LnkV)]).flatMap (fun x => x.1.2.1)).length ≤ 29 * (pre ++ [(((id, lr, 0), .slice A lr.length c) : LnkV)]).length := by
          have h1 := hI.short
          have h2 : (List.flatMap (fun x : LnkV => x.1.2.1) [((id, lr, 0), .slice A lr.length c)]).length = lr.length := by simp
          rw [List.flatMap_append, List.length_append, List.length_append, h2]
          simp only [List.length_cons, List.length_nil]
          omega
        have hend : KeepsFrom u7.heap.size W w1 ∧ KpL n₀ W w1 ∧ Coll B n₀ w (pre ++ [((id, lr, 0), .slice A lr.length c)]) w1 :=
          ⟨⟨hS.below.size, fun k o _ hk hc => hS.oth k o hk hc⟩, ⟨hS.below, hS.blk, hS.oth.maps⟩,
           { ok := fun x hx => by
               rcases List.mem_append.1 hx with hx | hx
               · exact hI.ok x hx
               · rw [List.mem_singleton] at hx; subst hx; rfl
             short := hshort
             c7 := ⟨x7, q7, by rw [List.flatMap_append]; simpa using o7n⟩
             c8 := ⟨x8, q8, by rw [List.map_append]; exact o8n⟩
             b4 := hS.b4, b5 := hS.b5, b6 := hS.b6
             below := hI.below.trans (hS.below.mono hB)
             kept := fun g t cs hb h1 h2 => Blk.below (B := n₀) (hI.kept g t cs hb h1 h2) hS.below (hn0 ▸ hb.lt) }⟩
        have HE := Lib.hid hend
        clear hend hS
        gi_wp2
        exact HE.out
      case s7 =>
        rintro L a1 w1 i ⟨hLs, hS⟩ hi
        obtain ⟨hlt7, hni, hpre⟩ := ready_mem hi
        have hlt11 : i < 11 := hlt7
        have hnf : L.getD i false = false := by simpa [Array.getD, show i < L.size by omega] using hni
        have hupd : (fun j => (L.setIfInBounds i true).getD j false) = upd (fun j => L.getD j false) i := by
          funext j
          unfold upd
          by_cases e : j = i
          · subst e; rw [set_at (by omega)]; simp
          · rw [set_ne (Ne.symm e)]; simp [e]
        have hnext : (L.setIfInBounds i true).size = 11 := by simp [hLs]
        have nf9 : L.getD 0 false = false ∨ L.getD 3 false = false ∨ L.getD 8 false = false → L.getD 9 false = false := fun h => by
          cases h9 : L.getD 9 false with
          | false => rfl
          | true =>
            have h3 : L.getD 3 false = true := (hS.d9 h9).1
            have h8 : L.getD 8 false = true := (hS.d9 h9).2
            have h0 : L.getD 0 false = true := (hS.d3 h3).1
            rw [h0, h3, h8] at h
            simp at h
        have nf8 : L.getD 3 false = false → L.getD 8 false = false := fun h => by
          cases h8 : L.getD 8 false with
          | false => rfl
          | true =>
            have h3 : L.getD 3 false = true := (hS.d8 h8).1
            rw [h3] at h
            cases h
        have nf10 : L.getD 8 false = false ∨ L.getD 4 false = false ∨ L.getD 9 false = false → L.getD 10 false = false := fun h => by
          cases h10 : L.getD 10 false with
          | false => rfl
          | true =>
            have h9 : L.getD 9 false = true := hS.d10 h10
            have h8 : L.getD 8 false = true := (hS.d9 h9).2
            have h4 : L.getD 4 false = true := (hS.d8 h8).2
            rw [h9, h8, h4] at h
            simp at h
        have hi11 : i = 0 ∨ i = 1 ∨ i = 2 ∨ i = 3 ∨ i = 4 ∨ i = 5 ∨ i = 6 ∨ i = 7 ∨ i = 8 ∨ i = 9 ∨ i = 10 := by omega
        rcases hi11 with rfl | rfl | rfl | rfl | rfl | rfl | rfl | rfl | rfl | rfl | rfl
        · obtain ⟨x, q1, q2, q3⟩ := hS.c7
          have hx : x = vl := q2 (nf9 (.inl hnf))
          subst hx
          exact opIn_val rfl rfl (by intro c h; cases h) (ld_runs rfl hS.fx.1 (q1.cell 0)) ⟨hnext, by rw [hupd]; exact hS.s0⟩
        · exact opIn_val rfl rfl (by intro c h; cases h) (fa_link1 rfl hS.fx.2.2) ⟨hnext, by rw [hupd]; exact hS.s1⟩
        · have p1 := hpre _ rfl ⟨1, .data⟩ (by simp) rfl
          exact opIn_val rfl rfl (by intro c h; cases h) (ld_runs rfl (hS.t1 p1) (hS.link.cell 1)) ⟨hnext, by rw [hupd]; exact hS.s2⟩
        · have p0 := hpre _ rfl ⟨0, .data⟩ (by simp) rfl
          have p2 := hpre _ rfl ⟨2, .data⟩ (by simp) rfl
          obtain ⟨oa, ob⟩ := hS.o3 hnf
          obtain ⟨i1, ei1, ei2, ei3, ei4⟩ := eiRun
          have hfl := hI.short
          obtain ⟨v', w', hrun, hown', hgr, hbk⟩ := run_append_any (P := Tryz.prog) w1 n₀ 22 22 62 i1 (.agg #[.int .i64 0, .int .i64 0]) 2 16 Tryz.underlying22 ei1 ei2 ei3 ei4 (by decide) (by decide) vl _ _ oa w1.heap.size A lr.length c _ ob (runE.cells_all lr) (by unfold maxLen; omega) (by omega) (Nat.le_trans hnW hS.below.size)
          have hown2 : Own w' n₀ v' (pre.flatMap (fun x => x.1.2.1) ++ lr) := by
            unfold Own
            rw [List.length_append, show cellsR (pre.flatMap (fun x => x.1.2.1) ++ lr) = cellsR (pre.flatMap (fun x => x.1.2.1)) ++ cellsR lr from runE.cells_append _ _]
            exact hown'
          exact opIn_val rfl rfl (by intro c h; cases h) (ap_any rfl (hS.t0 p0) (hS.t2 p2) hrun) ⟨hnext, by rw [hupd]; exact hS.s3 hnf (nf8 hnf) p0 p2 hown2 hgr⟩
        · obtain ⟨x, q1, q2, q3⟩ := hS.c8
          have hx : x = vi := q2 (nf10 (.inr (.inl hnf)))
          subst hx
          exact opIn_val rfl rfl (by intro c h; cases h) (ld_ints rfl hS.fx.2.1 (q1.cell 0)) ⟨hnext, by rw [hupd]; exact hS.s4⟩
        · exact opIn_val rfl rfl (by intro c h; cases h) (fa_link0 rfl hS.fx.2.2) ⟨hnext, by rw [hupd]; exact hS.s5⟩
        · have p5 := hpre _ rfl ⟨5, .data⟩ (by simp) rfl
          exact opIn_val rfl rfl (by intro c h; cases h) (ld_int rfl (hS.t5 p5) (hS.link.cell 0)) ⟨hnext, by rw [hupd]; exact hS.s6⟩
        · have p6 := hpre _ rfl ⟨6, .data⟩ (by simp) rfl
          exact opIn_val rfl rfl (by intro c h; cases h) (bs_int rfl (hS.t6 p6)) ⟨hnext, by rw [hupd]; exact hS.s7⟩
        · have p4 := hpre _ rfl ⟨4, .data⟩ (by simp) rfl
          have p7 := hpre _ rfl ⟨7, .data⟩ (by simp) rfl
          have p3 := hpre _ rfl ⟨3, .chain⟩ (by simp) rfl
          obtain ⟨q, eq1, eq2⟩ := hS.t7 p7 hnf
          have oa := hS.o8 hnf
          obtain ⟨i1, ei1, ei2, ei3, ei4⟩ := eiInt
          have hq1 : Reads w1 w1.heap.size 1 (some ⟨q, 0, none⟩) 1 [.int .i64 id] := ⟨rfl, fun _ => ⟨_, rfl, eq2.lt, fun j u hu => by
            have hj : j = 0 := by have := (List.getElem?_eq_some_iff.1 hu).1; simp at this; omega
            subst hj
            rw [Addr.add_lit]
            exact (eq2.cell 0).trans hu⟩⟩
          obtain ⟨v', w', hrun, hown', hgr, hbk⟩ := run_append_any (P := Tryz.prog) w1 n₀ 28 28 3 i1 (.int .i64 0) 1 8 Tryz.underlying28 ei1 ei2 ei3 ei4 (by decide) (by decide) vi _ _ oa w1.heap.size (some ⟨q, 0, none⟩) 1 1 _ hq1 (by simp [Value.oneCell']) (by rw [List.length_map]; unfold maxLen; omega) (by rw [List.length_map]; omega) (Nat.le_trans hnW hS.below.size)
          exact opIn_val rfl rfl (by intro c h; cases h) (ap_any rfl (hS.t4 p4) eq1 hrun) ⟨hnext, by rw [hupd]; exact hS.s8 p3 hnf p4 (LO.snoc (E := intE) (x := id) rfl rfl rfl hown') hgr⟩
        · have p3 := hpre _ rfl ⟨3, .data⟩ (by simp) rfl
          have p8 := hpre _ rfl ⟨8, .chain⟩ (by simp) rfl
          obtain ⟨x, q1, q2, q3⟩ := hS.c7
          have hv := hS.t3 p3
          obtain ⟨A3, c3, hv3⟩ := hv.form
          have hsx := hS.s9 p3 p8 (nf10 (.inr (.inr hnf))) (by omega) (by omega)
          rw [hv3] at hsx
          exact opIn_skip rfl rfl (by intro c h; cases h) (st_runs rfl hS.fx.1 hv3 (q1.cell 0) (q1.frozen 0)) ⟨hnext, by rw [hupd]; exact hsx⟩
        · have p8 := hpre _ rfl ⟨8, .data⟩ (by simp) rfl
          have p9 := hpre _ rfl ⟨9, .chain⟩ (by simp) rfl
          obtain ⟨x, q1, q2, q3⟩ := hS.c8
          have hv := hS.t8 p8
          obtain ⟨A3, c3, hv3⟩ := hv.form
          have hsx := hS.s10 p8 p9 (by omega) (by omega)
          rw [hv3] at hsx
          exact opIn_skip rfl rfl (by intro c h; cases h) (st_ints rfl hS.fx.2.1 hv3 (q1.cell 0) (q1.frozen 0)) ⟨hnext, by rw [hupd]; exact hsx⟩
    · have hq : (er != 0) = true := by simpa using her
      have c4 := hI.b4.cell 0
      have c5 := hI.b5.cell 0
      have c6 := hI.b6.cell 0
      have f4 := hI.b4.frozen 0
      have f5 := hI.b5.frozen 0
      have f6 := hI.b6.frozen 0
      have hgr : W.grownBy (((W.setCell ⟨n₀, 0, none⟩ (.slice none 0 0)).setCell ⟨n₀ + 1, 0, none⟩ (.slice none 0 0)).setCell ⟨n₀ + 1 + 1, 0, none⟩ (.int .i64 er)) (some n₀) → True := fun _ => trivial
      have hpost : KeepsFrom u7.heap.size W (((W.setCell ⟨n₀, 0, none⟩ (.slice none 0 0)).setCell ⟨n₀ + 1, 0, none⟩ (.slice none 0 0)).setCell ⟨n₀ + 1 + 1, 0, none⟩ (.int .i64 er)).drew ∧ KpL n₀ W (((W.setCell ⟨n₀, 0, none⟩ (.slice none 0 0)).setCell ⟨n₀ + 1, 0, none⟩ (.slice none 0 0)).setCell ⟨n₀ + 1 + 1, 0, none⟩ (.int .i64 er)).drew ∧ CollX B n₀ w (pre ++ [((id, lr, er), .slice A lr.length c)]) (((W.setCell ⟨n₀, 0, none⟩ (.slice none 0 0)).setCell ⟨n₀ + 1, 0, none⟩ (.slice none 0 0)).setCell ⟨n₀ + 1 + 1, 0, none⟩ (.int .i64 er)).drew := by
        have e4 : Blk (W.setCell ⟨n₀, 0, none⟩ (.slice none 0 0)) n₀ 22 #[.slice none 0 0] := by have := hI.b4.set_ 0 (.slice none 0 0); simpa using this
        have e5 : Blk (W.setCell ⟨n₀, 0, none⟩ (.slice none 0 0)) (n₀ + 1) 28 #[.slice none 0 0] := hI.b5.far (p := ⟨n₀, 0, none⟩) (by simp) _
        have e6 : Blk (W.setCell ⟨n₀, 0, none⟩ (.slice none 0 0)) (n₀ + 1 + 1) 29 #[.int .i64 0] := hI.b6.far (p := ⟨n₀, 0, none⟩) (show n₀ + 1 + 1 ≠ n₀ by omega) _
        have g1 := grown_set W n₀ 0 (.slice none 0 0)
        have r1 : ∀ r, some n₀ = some r → ∃ cs, Blk W r 22 cs := fun r e => by cases e; exact ⟨_, hI.b4⟩
        have hb1 : Below n₀ W (W.setCell ⟨n₀, 0, none⟩ (.slice none 0 0)) := (Below.refl _ _).setCell (p := ⟨n₀, 0, none⟩) (Nat.le_refl _) _
        have ko1 := KeepsOthers.setCell W ⟨n₀, 0, none⟩ (.slice none 0 0)
        generalize W.setCell ⟨n₀, 0, none⟩ (.slice none 0 0) = W1 at *
        have m4 : Blk (W1.setCell ⟨n₀ + 1, 0, none⟩ (.slice none 0 0)) n₀ 22 #[.slice none 0 0] := e4.far (p := ⟨n₀ + 1, 0, none⟩) (show n₀ ≠ n₀ + 1 by omega) _
        have m5 : Blk (W1.setCell ⟨n₀ + 1, 0, none⟩ (.slice none 0 0)) (n₀ + 1) 28 #[.slice none 0 0] := by have := e5.set_ 0 (.slice none 0 0); simpa using this
        have m6 : Blk (W1.setCell ⟨n₀ + 1, 0, none⟩ (.slice none 0 0)) (n₀ + 1 + 1) 29 #[.int .i64 0] := e6.far (p := ⟨n₀ + 1, 0, none⟩) (show n₀ + 1 + 1 ≠ n₀ + 1 by omega) _
        have g2 := grown_set W1 (n₀ + 1) 0 (.slice none 0 0)
        have r2 : ∀ r, some (n₀ + 1) = some r → ∃ cs, Blk W1 r 28 cs := fun r e => by cases e; exact ⟨_, e5⟩
        have hb2 : Below n₀ W (W1.setCell ⟨n₀ + 1, 0, none⟩ (.slice none 0 0)) := hb1.setCell (p := ⟨n₀ + 1, 0, none⟩) (by show _ ≤ n₀ + 1; omega) _
        have ko2 := ko1.trans (KeepsOthers.setCell W1 ⟨n₀ + 1, 0, none⟩ (.slice none 0 0))
        generalize W1.setCell ⟨n₀ + 1, 0, none⟩ (.slice none 0 0) = W2 at *
        have n4 : Blk (W2.setCell ⟨n₀ + 1 + 1, 0, none⟩ (.int .i64 er)) n₀ 22 #[.slice none 0 0] := m4.far (p := ⟨n₀ + 1 + 1, 0, none⟩) (show n₀ ≠ n₀ + 1 + 1 by omega) _
        have n5 : Blk (W2.setCell ⟨n₀ + 1 + 1, 0, none⟩ (.int .i64 er)) (n₀ + 1) 28 #[.slice none 0 0] := m5.far (p := ⟨n₀ + 1 + 1, 0, none⟩) (show n₀ + 1 ≠ n₀ + 1 + 1 by omega) _
        have n6 : Blk (W2.setCell ⟨n₀ + 1 + 1, 0, none⟩ (.int .i64 er)) (n₀ + 1 + 1) 29 #[.int .i64 er] := by have := m6.set_ 0 (.int .i64 er); simpa using this
        have g3 := grown_set W2 (n₀ + 1 + 1) 0 (.int .i64 er)
        have r3 : ∀ r, some (n₀ + 1 + 1) = some r → ∃ cs, Blk W2 r 29 cs := fun r e => by cases e; exact ⟨_, m6⟩
        have hb3 : Below n₀ W (W2.setCell ⟨n₀ + 1 + 1, 0, none⟩ (.int .i64 er)) := hb2.setCell (p := ⟨n₀ + 1 + 1, 0, none⟩) (by show _ ≤ n₀ + 1 + 1; omega) _
        have ko3 := ko2.trans (KeepsOthers.setCell W2 ⟨n₀ + 1 + 1, 0, none⟩ (.int .i64 er))
        have hoth := (keep_oth g1 r1).trans ((keep_oth g2 r2).trans (keep_oth g3 r3))
        have hblk : ∀ (g : Nat) (t : TypeId) (cs : Array Value), Blk W g t cs → bodyT t = false → Blk (W2.setCell ⟨n₀ + 1 + 1, 0, none⟩ (.int .i64 er)) g t cs := fun g t cs hb ht => keep_blk g3 r3 (keep_blk g2 r2 (keep_blk g1 r1 hb (bodyT_ne ht (by decide))) (bodyT_ne ht (by decide))) (bodyT_ne ht (by decide))
        generalize W2.setCell ⟨n₀ + 1 + 1, 0, none⟩ (.int .i64 er) = W3 at *
        exact ⟨⟨(ko3.from u7.heap.size).size, (ko3.from u7.heap.size).same⟩, ⟨hb3.drew, hblk, hoth.maps⟩, ⟨_, _, rfl, hI.ok, her, n6⟩, n4, n5, (hI.below.trans (hb3.mono hB)).drew, fun g t cs hb h1 h2 => Blk.below (B := n₀) (hI.kept g t cs hb h1 h2) hb3.drew (hn0 ▸ hb.lt)⟩
      clear hgr
      have HPO := Lib.hid hpost
      clear hpost
      gi_wp2
      gi_region
      all_goals gi_wp2
      all_goals exact ⟨HPO.out.1, HPO.out.2.1, rfl, HPO.out.2.2⟩
  case done =>
    rintro Dd ys W hDd ⟨hys, hF⟩ hC hK
    have hbel := hC.below
    have hkep := hC.kept
    have hb4 := hC.b4
    have hb5 := hC.b5
    have hb6 := hC.b6
    have hfind : T.find? (fun y => decide (y.2.2 ≠ 0)) = none := by
      rw [← hys, List.find?_eq_none]
      intro y hy
      obtain ⟨z, hz, rfl⟩ := List.mem_map.1 hy
      simp [hC.ok z hz]
    have hRR : R = (Rp.norm (ys.flatMap (fun x => x.1.2.1)), ys.map (fun x => x.1.1), 0) := by
      rw [HR.out]
      unfold crRes
      rw [hfind, ← hys]
      simp only
      rw [List.flatMap_map, List.map_map]
      rfl
    have HRR := Lib.hid hRR
    clear hRR hfind
    obtain ⟨vl, k7, o7⟩ := hC.c7
    obtain ⟨vi, k8, o8⟩ := hC.c8
    obtain ⟨A7, c7, rfl⟩ := o7.form
    obtain ⟨A8, c8, rfl⟩ := o8.form
    have hnm := norm_end A7 c7 (ys.flatMap (fun x : LnkV => x.1.2.1)) W.drew (show RS W.drew W.drew.heap.size A7 (ys.flatMap (fun x : LnkV => x.1.2.1)) from o7.rs) (by have := hC.short; have : ys.length ≤ 16385 := by { have := congrArg List.length hys; rw [List.length_map] at this; omega }; omega)
    have y7 := k7.cell 0
    have y8 := k8.cell 0
    have y4 := hb4.cell 0
    have y5 := hb5.cell 0
    have y6 := hb6.cell 0
    have z4 := hb4.frozen 0
    have z5 := hb5.frozen 0
    have z6 := hb6.frozen 0
    have l8 := k8.lt
    have hll := hC.short
    clear hC
    generalize ys.flatMap (fun x : LnkV => x.1.2.1) = ll at *
    generalize ys.map (fun x : LnkV => x.1.1) = li at *
    have hnl := Lib.hid (norm_len ll)
    generalize Rp.norm ll = s0 at *
    have HNM := Lib.hid hnm
    clear hnm
    gi_wp2
    refine wpIn_wide.2 ?_
    go_region_with (go_at_call 13; refine HNM.out.mono ?_; intro e w6 h6; obtain ⟨A6, c6, rfl, ho6, hr6, hb6b⟩ := h6.open_; have y8' := (k8.drew.below hb6b l8).cell 0; have y4' := (hb4.drew.below hb6b hb4.lt).cell 0; have z4' := (hb4.drew.below hb6b hb4.lt).frozen 0; have y5' := (hb5.drew.below hb6b hb5.lt).cell 0; have z5' := (hb5.drew.below hb6b hb5.lt).frozen 0; have y6' := (hb6.drew.below hb6b hb6.lt).cell 0; have z6' := (hb6.drew.below hb6b hb6.lt).frozen 0)
    all_goals (obtain ⟨hKe, W4, hW4, q4, q5, q6, p6, p8, pF, pb, pk⟩ := cread_end hn0 hB hF hbel hkep hb4 hb5 hb6 (by omega) o8 hK ho6 hb6b)
    all_goals gi_wp2
    all_goals refine ⟨by simp, .inl ⟨_, _, rfl, run_takeDeferred hKe, ?_⟩⟩
    all_goals rw [← hW4]
    all_goals (have t4 := q4.cell 0; have t5 := q5.cell 0; have t6 := q6.cell 0)
    all_goals refine ⟨.tuple #[.slice A6 s0.length c6, .slice A8 li.length c8, .int .i64 0], by simp [results, Tryz.f11, go_sem, t4, t5, t6], ?_⟩
    all_goals (rw [HRR.out]; exact ⟨_, _, rfl, by rw [hn0]; exact p6, by rw [hn0]; exact p8, pF, pb, pk⟩)
  case stop =>
    rintro Dd k pre W hDd ⟨hpx, Dj, hF, hDj⟩ ⟨rfl, hC⟩ hK
    obtain ⟨pre', x, rfl, hok, herr, hb6⟩ := hC.last
    obtain ⟨rest, hTr⟩ := hpx
    have hrest : rest = [] := HLAST.out (pre'.map (·.1)) x.1 rest (by rw [← hTr]; simp) herr
    rw [hrest, List.append_nil] at hTr
    have hDD := hDj hTr
    subst hDD
    have hRR : R = ([], [], x.1.2.2) := by
      rw [HR.out]
      unfold crRes
      have hfind : T.find? (fun y => decide (y.2.2 ≠ 0)) = some x.1 := by
        rw [← hTr, List.map_append, List.find?_append, List.find?_eq_none.2]
        · simp [herr]
        · intro y hy
          obtain ⟨z, hz, rfl⟩ := List.mem_map.1 hy
          simp [hok z hz]
      rw [hfind]
    have HRR := Lib.hid hRR
    clear hRR
    have hg := grownBy_putObj' W Dd (.deferred none)
    have hr := put_row hK rfl
    have q4 := blk_nc2 hC.b4 hg hr
    have q5 := blk_nc2 hC.b5 hg hr
    have q6 := blk_nc2 hb6 hg hr
    have t4 := q4.cell 0
    have t5 := q5.cell 0
    have t6 := q6.cell 0
    have pF := hF.keepF (keepF_put W Dd _ (.deferred none) hK rfl rfl)
    have pb : Below B w (W.putObj Dd (.deferred none)) := hC.below.grown hg (by have := hC.below.size; omega) (fun r e => by cases e; omega)
    have pk : Kept w (W.putObj Dd (.deferred none)) := fun g t cs h h1 h2 => blk_nc2 (hC.kept g t cs h h1 h2) hg hr
    gi_wp2
    refine ⟨by simp, .inl ⟨_, _, rfl, run_takeDeferred hK, ?_⟩⟩
    refine ⟨.tuple #[.slice none 0 0, .slice none 0 0, .int .i64 x.1.2.2], by simp [results, Tryz.f11, go_sem, t4, t5, t6], ?_⟩
    rw [HRR.out]
    exact ⟨_, _, rfl, Own.nil_ _ _, LO.nil_ _ _, pF, pb, pk⟩
end Go.Proofs.YtlgbcogdogpihaaGreatDoor
