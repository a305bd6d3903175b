/- A region that draws its order: what each operation gives holds at its end, whatever order was drawn. What single operations of node's regions do. -/
import Derived.Test.YtpfplojkiloldaaGreatDoorQ09
namespace Go.Proofs.YtpfplojkiloldaaGreatDoor
open Go.RowKit Go.Shelf
/-- what an operation's value is; it stays so where only younger memory is made, or another's block is written -/
structure Is (base : Nat) where
  own : Option Nat
  p : Value → World → Prop
  up : ∀ v W W' S, p v W → Fr S W W' → (∀ k, S k → k < base ∧ own ≠ some k) → p v W'
def Is.any (base : Nat) : Is base := ⟨none, fun _ _ => True, fun _ _ _ _ _ _ _ => trivial⟩
def Is.eq (base : Nat) (v : Value) : Is base := ⟨none, fun x _ => x = v, fun _ _ _ _ h _ _ => h⟩
/-- a slice of so many cells, built by the region -/
def Is.blk (base : Nat) (ty : TypeId) (n : Nat) (cs : Array Value) : Is base := ⟨none, fun v W => ∃ b, base ≤ b ∧ v = .slice (some ⟨b, 0, none⟩) n n ∧ Blk W b ty cs, fun _ _ _ _ ⟨b, h0, h1, h2⟩ hf hS => ⟨b, h0, h1, hf.blk h2 (fun a => by have := hS b a; omega)⟩⟩
/-- a row that is read as a list -/
def Is.row (base : Nat) {α : Type} (E : Enc α) (ty : TypeId) (l : List α) : Is base := ⟨none, fun v W => LO E ty W base v l ∧ ∃ A c, v = .slice A l.length c, fun _ _ _ _ h hf hS => ⟨LO.fr' h.1 hf (fun k a => (hS k a).1), h.2⟩⟩
/-- a node -/
def Is.node (base : Nat) (n : Nd.Node) : Is base := ⟨none, fun v W => NF base W v n, fun _ _ _ _ h hf hS => h.fr hf (fun k a => (hS k a).1)⟩
/-- a node that was stored in a block -/
def Is.put (base g : Nat) (n : Nd.Node) : Is base := ⟨some g, fun _ W => ∃ cs, NF base W (.agg cs) n ∧ Blk W g 58 cs, fun _ _ _ _ ⟨cs, h1, h2⟩ hf hS => ⟨cs, h1.fr hf (fun k a => (hS k a).1), hf.blk h2 (fun a => (hS g a).2 rfl)⟩⟩
/-- what an operation does -/
def Does (o : Oper) (a : Act) (W : World) (R : Value → World → Prop) : Prop :=
  (∃ v w', (execOp a.eval o).run Tryz.prog W = .ok (.value v) w' ∧ R v w') ∨ (∃ w', (execOp a.eval o).run Tryz.prog W = .ok .skip w' ∧ R undef w') ∨ (∃ f args, (execOp a.eval o).run Tryz.prog W = .ok (.enter f args) W ∧ Calls Tryz.prog f args W fun e w' => ∃ v, e = .returned v ∧ R v w')
theorem Does.wp {o : Oper} {a : Act} {W : World} {R : Value → World → Prop} {K : Act → World → Prop} {Q : Exit → Act → World → Prop} (h : Does o a W R) (hK : ∀ v w', R v w' → K (a.put o.dst v) w') : o.wp Tryz.prog a W K Q := by
  unfold Oper.wp
  rcases h with ⟨v, w', hr, h⟩ | ⟨w', hr, h⟩ | ⟨f, args, hr, h⟩
  · rw [hr, Oper.upon_value]; exact hK v w' h
  · rw [hr, Oper.upon_skip]; exact hK _ w' h
  · rw [hr, Oper.upon_enter]
    refine Calls.mono h ?_
    rintro e w' ⟨v, rfl, h⟩
    exact hK v w' h
def depOn (ops : Array Oper) (i j : Nat) : Bool := ((ops[i]?).map fun o => o.after.toList.any fun e => Region.binds .any e && e.on == j).getD false
abbrev isAt {base : Nat} (Vs : List (Is base)) (i : Nat) : Is base := Vs.getD i (Is.any base)
/-- the blocks that the region writes -/
def OwnS {base : Nat} (Vs : List (Is base)) (k : Nat) : Prop := ∃ i, (isAt Vs i).own = some k
theorem ownS_mem {base : Nat} {Vs : List (Is base)} {k : Nat} (h : OwnS Vs k) : k ∈ Vs.filterMap (·.own) := by
  obtain ⟨i, h⟩ := h
  rw [List.mem_filterMap]
  unfold isAt at h
  rw [List.getD_eq_getElem?_getD] at h
  cases hg : Vs[i]? with
  | none => rw [hg] at h; simp [Is.any] at h
  | some x => rw [hg] at h; exact ⟨x, List.mem_of_getElem? hg, h⟩
theorem own_inj {base : Nat} : ∀ {Vs : List (Is base)}, (Vs.filterMap (·.own)).Nodup → ∀ {i j k}, (isAt Vs i).own = some k → (isAt Vs j).own = some k → i = j
  | [], _, i, j, k, h, _ => by simp [isAt, Is.any] at h
  | V :: Vs, hn, i, j, k, h1, h2 => by
    have hmem : ∀ {i : Nat}, (isAt Vs i).own = some k → k ∈ Vs.filterMap (·.own) := fun {i} h => by
      rw [List.mem_filterMap]
      unfold isAt at h
      rw [List.getD_eq_getElem?_getD] at h
      cases hg : Vs[i]? with
      | none => rw [hg] at h; simp [Is.any] at h
      | some x => rw [hg] at h; exact ⟨x, List.mem_of_getElem? hg, h⟩
    cases i with
    | zero =>
      cases j with
      | zero => rfl
      | succ j =>
        have h1' : V.own = some k := h1
        have h2' : (isAt Vs j).own = some k := h2
        rw [List.filterMap_cons_some h1', List.nodup_cons] at hn
        exact absurd (hmem h2') hn.1
    | succ i =>
      have h1' : (isAt Vs i).own = some k := h1
      cases j with
      | zero =>
        have h2' : V.own = some k := h2
        rw [List.filterMap_cons_some h2', List.nodup_cons] at hn
        exact absurd (hmem h1') hn.1
      | succ j =>
        have h2' : (isAt Vs j).own = some k := h2
        have hn' : (Vs.filterMap (·.own)).Nodup := by
          cases hV : V.own with
          | none => rwa [List.filterMap_cons_none hV] at hn
          | some x => rw [List.filterMap_cons_some hV, List.nodup_cons] at hn; exact hn.2
        rw [own_inj hn' h1' h2']
/-- the region's state: what is done holds -/
structure FlowInv {base : Nat} (mk : (Nat → Value) → Act) (Vs : List (Is base)) (ops : Array Oper) (w : World) (L : Array Bool) (a : Act) (W : World) : Prop where
  sz : L.size = ops.size
  fr : Fr (OwnS Vs) w W
  old : ∀ i k, (isAt Vs i).own = some k → L.getD i false = false → W.heap[k]? = w.heap[k]?
  closed : ∀ j i, L.getD j false = true → depOn ops j i = true → L.getD i false = true
  act : ∃ u, a = mk u ∧ ∀ i, i < ops.size → L.getD i false = true → (isAt Vs i).p (u i) W
/-- an operation's step -/
abbrev Step1 {base : Nat} (mk : (Nat → Value) → Act) (Vs : List (Is base)) (i : Nat) (o : Oper) (u : Nat → Value) (W : World) : Prop :=
  Does o (mk u) W (fun v W' => (mk u).put o.dst v = mk (fun j => if j = i then v else u j) ∧ (isAt Vs i).p v W' ∧ Fr (fun k => (isAt Vs i).own = some k) W W')
section
variable {base : Nat} {Q : Exit → Act → World → Prop} {ops : Array Oper} {w : World}
theorem wpAny_flow {md : Region.Mode} (mk : (Nat → Value) → Act) (Vs : List (Is base)) (hmd : md = .any)
    (hlow : ((List.range ops.size).all fun i => ((ops[i]?).map fun o => o.after.toList.all fun e => !Region.binds .any e || decide (e.on < i)).getD true) = true)
    (hgd : ops.toList.all (fun o => o.guard.isNone) = true) (hbw : base ≤ w.heap.size) (hown : ∀ k, OwnS Vs k → k < base) (hnd : (Vs.filterMap (·.own)).Nodup)
    (hstep : ∀ i o, ops[i]? = some o → ∀ u W, Fr (OwnS Vs) w W → (∀ j k, (isAt Vs j).own = some k → (j = i ∨ depOn ops j i = true) → W.heap[k]? = w.heap[k]?) → (∀ j, depOn ops i j = true → (isAt Vs j).p (u j) W) → Step1 mk Vs i o u W)
    (hend : ∀ u W, Fr (OwnS Vs) w W → (∀ i, i < ops.size → (isAt Vs i).p (u i) W) → Q .normal (mk u) W) :
    ∀ fuel L a W, FlowInv mk Vs ops w L a W → L.toList.count false ≤ fuel → wpAny Tryz.prog md ops Q fuel L a W := by
  subst hmd
  have hdone : ∀ L a W, FlowInv mk Vs ops w L a W → Region.ready .any ops L = [] → Q .normal a W := by
    rintro L a W ⟨hs, hb, _, _, u, rfl, hu⟩ hr
    have hall := ready_all hr hs hlow
    exact hend u W hb (fun i hi => hu i hi (hall i hi))
  intro fuel
  induction fuel with
  | zero =>
    intro L a W hI hc
    have hr : Region.ready .any ops L = [] := by
      cases hr : Region.ready .any ops L with
      | nil => rfl
      | cons i r =>
        have hm := ready_mem (md := .any) (ops := ops) (L := L) (i := i) (by rw [hr]; exact List.mem_cons_self ..)
        have hL : i < L.size := by have := hI.sz; omega
        have h2 := hm.2.1
        have h3 : L[i] = false := by simpa [Array.getD, hL] using h2
        have h4 : L.toList.count false = 0 := by omega
        rw [List.count_eq_zero] at h4
        exact absurd (by rw [← h3]; exact Array.mem_toList_iff.2 (Array.getElem_mem hL)) h4
    exact ⟨hr, hdone L a W hI hr⟩
  | succ fuel ih =>
    intro L a W hI hc
    refine ⟨hdone L a W hI, fun i hi => ?_⟩
    have hm := ready_mem hi
    have hL : i < L.size := by have := hI.sz; omega
    have h3 : L[i] = false := by simpa [Array.getD, hL] using hm.2.1
    have hcnt : (L.setIfInBounds i true).toList.count false ≤ fuel := by
      have h5 : (L.setIfInBounds i true).toList = L.toList.set i true := by simp
      rw [h5, List.count_set (by simpa using hL)]
      have h6 : L.toList[i]'(by simpa using hL) = false := by simpa using h3
      rw [h6]
      have h7 : 0 < L.toList.count false := List.count_pos_iff.2 (by rw [← h3]; exact Array.mem_toList_iff.2 (Array.getElem_mem hL))
      simp
      simp at hc h7
      omega
    obtain ⟨hs, hb, hol, hcl, u, rfl, hu⟩ := hI
    obtain ⟨o, ho⟩ : ∃ o, ops[i]? = some o := ⟨_, Array.getElem?_eq_getElem hm.1⟩
    have hg : o.guard = none := by
      have := List.all_eq_true.1 hgd o (Array.mem_toList_iff.2 (Array.mem_of_getElem? ho))
      simpa using this
    have hdep : ∀ j, depOn ops i j = true → (isAt Vs j).p (u j) W := by
      intro j hj
      unfold depOn at hj
      rw [ho] at hj
      simp only [Option.map_some, Option.getD_some, List.any_eq_true, Bool.and_eq_true, beq_iff_eq] at hj
      obtain ⟨e, he, hbd, rfl⟩ := hj
      have h1 := hm.2.2 o ho e he hbd
      refine hu e.on ?_ h1
      have h2 : e.on < L.size := by
        by_cases h : e.on < L.size
        · exact h
        · simp [Array.getD, h] at h1
      omega
    have hd := hstep i o ho u W hb (fun j k hk hj => hol j k hk (by
      rcases hj with rfl | hj
      · simpa [Array.getD, hL] using h3
      · cases hl : L.getD j false with
        | false => rfl
        | true =>
          have := hcl j i hl hj
          simp [Array.getD, hL, h3] at this)) hdep
    unfold wpOp
    rw [ho]
    simp only
    rw [if_pos (by simp [Region.wanted, hg])]
    refine .inl (hd.wp ?_)
    rintro v W' ⟨e1, hv, hb'⟩
    rw [e1]
    refine ih _ _ _ ⟨by simp [hs], hb.trans (hb'.more fun k hk => ⟨i, hk⟩), ?_, ?_, _, rfl, ?_⟩ hcnt
    · intro j k hk hlj
      have hji : j ≠ i := fun e => by subst e; rw [set_at hL] at hlj; cases hlj
      rw [set_ne (Ne.symm hji)] at hlj
      have h1 := hown k ⟨j, hk⟩
      have h2 := hb.size
      rw [hb'.block k (by omega) (fun hk2 => hji (own_inj hnd hk hk2))]
      exact hol j k hk hlj
    · intro j i' hj hd2
      by_cases hji : i = j
      · subst hji
        unfold depOn at hd2
        rw [ho] at hd2
        simp only [Option.map_some, Option.getD_some, List.any_eq_true, Bool.and_eq_true, beq_iff_eq] at hd2
        obtain ⟨e, he, hbd, rfl⟩ := hd2
        have h1 := hm.2.2 o ho e he hbd
        by_cases h2 : i = e.on
        · rw [← h2]; exact set_at hL
        · rw [set_ne h2]
          by_cases h : e.on < L.size
          · simpa [Array.getD, h] using h1
          · simp [Array.getD, h] at h1
      · rw [set_ne hji] at hj
        have h1 := hcl j i' hj hd2
        by_cases h2 : i = i'
        · rw [← h2]; exact set_at hL
        · rw [set_ne h2]; exact h1
    intro j hj hlj
    by_cases hji : j = i
    · subst hji; rw [if_pos rfl]; exact hv
    · rw [if_neg hji]
      rw [set_ne (Ne.symm hji)] at hlj
      exact (isAt Vs j).up _ _ _ _ (hu j hj hlj) hb' (fun k hk => ⟨hown k ⟨i, hk⟩, fun hk2 => hji (own_inj hnd hk2 hk)⟩)
theorem wp_region_flow2 {id : Nat} {a : Act} (mk : (Nat → Value) → Act) (Vs : List (Is base))
    (hm : Tryz.prog.follows .mixedOrders = true)
    (hlow : ((List.range ops.size).all fun i => ((ops[i]?).map fun o => o.after.toList.all fun e => !Region.binds .any e || decide (e.on < i)).getD true) = true)
    (hgd : ops.toList.all (fun o => o.guard.isNone) = true) (L : List Nat) (hL : Vs.filterMap (·.own) = L) (hbw : base ≤ w.heap.size) (hown : ∀ k ∈ L, k < base) (hnd : L.Nodup)
    (ha : ∃ u, a = mk u)
    (hstep : ∀ i o, ops[i]? = some o → ∀ u W, Fr (fun k => k ∈ L) w W → (∀ j k, (isAt Vs j).own = some k → (j = i ∨ depOn ops j i = true) → W.heap[k]? = w.heap[k]?) → (∀ j, depOn ops i j = true → (isAt Vs j).p (u j) W) → Step1 mk Vs i o u W)
    (hend : ∀ u W, Fr (fun k => k ∈ L) w W → (∀ i, i < ops.size → (isAt Vs i).p (u i) W) → Q .normal (mk u) W) : (Code.region id ops true).wp Tryz.prog Q a w := by
  subst hL
  refine wp_region_any hm (wpAny_flow (w := w) mk Vs rfl hlow hgd hbw (fun k hk => hown k (ownS_mem hk)) hnd (fun i o ho u W hf => hstep i o ho u W (hf.more fun _ => ownS_mem)) (fun u W hf => hend u W (hf.more fun _ => ownS_mem)) _ _ _ _ ⟨by simp, .of_below (Below.refl w.heap.size w).drew, fun _ _ _ _ => rfl, ?_, ?_⟩ ?_)
  · intro j i hj
    by_cases h : j < ops.size <;> simp [Array.getD, h] at hj
  · obtain ⟨u, rfl⟩ := ha
    exact ⟨u, rfl, fun i hi h => by simp [Array.getD, hi] at h⟩
  · simp
theorem wp_region_flow {id : Nat} {a : Act} (mk : (Nat → Value) → Act) (Vs : List (Is base))
    (hm : Tryz.prog.follows .mixedOrders = true)
    (hlow : ((List.range ops.size).all fun i => ((ops[i]?).map fun o => o.after.toList.all fun e => !Region.binds .any e || decide (e.on < i)).getD true) = true)
    (hgd : ops.toList.all (fun o => o.guard.isNone) = true) (L : List Nat) (hL : Vs.filterMap (·.own) = L) (hbw : base ≤ w.heap.size) (hown : ∀ k ∈ L, k < base) (hnd : L.Nodup)
    (ha : ∃ u, a = mk u)
    (hstep : ∀ i o, ops[i]? = some o → ∀ u W, Fr (fun k => k ∈ L) w W → (∀ k, (isAt Vs i).own = some k → W.heap[k]? = w.heap[k]?) → (∀ j, depOn ops i j = true → (isAt Vs j).p (u j) W) → Step1 mk Vs i o u W)
    (hend : ∀ u W, Fr (fun k => k ∈ L) w W → (∀ i, i < ops.size → (isAt Vs i).p (u i) W) → Q .normal (mk u) W) : (Code.region id ops true).wp Tryz.prog Q a w :=
  wp_region_flow2 mk Vs hm hlow hgd L hL hbw hown hnd ha (fun i o ho u W hf hold hdep => hstep i o ho u W hf (fun k hk => hold i k hk (.inl rfl)) hdep) hend
/-- the state of a region whose last operation waits for all others -/
structure LastInv {base : Nat} (mk : (Nat → Value) → Act) (Vs : List (Is base)) (ops : Array Oper) (n : Nat) (w : World) (L : Array Bool) (a : Act) (W : World) : Prop where
  sz : L.size = ops.size
  fr : Fr (OwnS Vs) w W
  old : ∀ i k, (isAt Vs i).own = some k → L.getD i false = false → W.heap[k]? = w.heap[k]?
  lst : L.getD n false = false
  act : ∃ u, a = mk u ∧ ∀ i, i < n → L.getD i false = true → (isAt Vs i).p (u i) W
theorem wpAny_last {md : Region.Mode} {n : Nat} (mk : (Nat → Value) → Act) (Vs : List (Is base)) (hmd : md = .any) (hn : ops.size = n + 1)
    (hlow : ((List.range ops.size).all fun i => ((ops[i]?).map fun o => o.after.toList.all fun e => !Region.binds .any e || decide (e.on < i)).getD true) = true)
    (hlast : ((List.range n).all fun i => depOn ops n i) = true)
    (hgd : ops.toList.all (fun o => o.guard.isNone) = true) (hbw : base ≤ w.heap.size) (hown : ∀ k, OwnS Vs k → k < base) (hnd : (Vs.filterMap (·.own)).Nodup)
    (hstep : ∀ i o, i < n → ops[i]? = some o → ∀ u W, Fr (OwnS Vs) w W → (∀ k, (isAt Vs i).own = some k → W.heap[k]? = w.heap[k]?) → (∀ j, depOn ops i j = true → (isAt Vs j).p (u j) W) → Step1 mk Vs i o u W)
    (hend : ∀ o, ops[n]? = some o → ∀ u W, Fr (OwnS Vs) w W → (∀ i, i < n → (isAt Vs i).p (u i) W) → Does o (mk u) W (fun v W' => Q .normal ((mk u).put o.dst v) W')) :
    ∀ fuel L a W, LastInv mk Vs ops n w L a W → L.toList.count false ≤ fuel → wpAny Tryz.prog md ops Q fuel L a W := by
  subst hmd
  have hnr : ∀ (L : Array Bool), L.size = ops.size → Region.ready .any ops L = [] → L.getD n false = true := fun L hs hr => ready_all hr hs hlow n (by omega)
  have hall : ∀ (L : Array Bool), (∀ i, i < ops.size → L.getD i false = true) → L.size = ops.size → Region.ready .any ops L = [] := fun L hL hs => by
    cases hr : Region.ready .any ops L with
    | nil => rfl
    | cons i r =>
      have hm := ready_mem (md := .any) (ops := ops) (L := L) (i := i) (by rw [hr]; exact List.mem_cons_self ..)
      have h1 := hL i hm.1
      have h2 := hm.2.1
      have h3 : i < L.size := by have := hm.1; omega
      simp [Array.getD, h3] at h1 h2
      rw [h1] at h2; cases h2
  intro fuel
  induction fuel with
  | zero =>
    intro L a W hI hc
    exfalso
    have hL : n < L.size := by have := hI.sz; omega
    have h4 : L.toList.count false = 0 := by omega
    rw [List.count_eq_zero] at h4
    have h3 : L[n] = false := by simpa [Array.getD, hL] using hI.lst
    exact h4 (by rw [← h3]; exact Array.mem_toList_iff.2 (Array.getElem_mem hL))
  | succ fuel ih =>
    intro L a W hI hc
    refine ⟨fun hr => (by have := hnr L hI.sz hr; rw [hI.lst] at this; cases this), fun i hi => ?_⟩
    have hm := ready_mem hi
    have hL : i < L.size := by have := hI.sz; omega
    have h3 : L[i] = false := by simpa [Array.getD, hL] using hm.2.1
    have hcnt : (L.setIfInBounds i true).toList.count false ≤ fuel := by
      have h5 : (L.setIfInBounds i true).toList = L.toList.set i true := by simp
      rw [h5, List.count_set (by simpa using hL)]
      have h6 : L.toList[i]'(by simpa using hL) = false := by simpa using h3
      rw [h6]
      have h7 : 0 < L.toList.count false := List.count_pos_iff.2 (by rw [← h3]; exact Array.mem_toList_iff.2 (Array.getElem_mem hL))
      simp
      simp at hc h7
      omega
    obtain ⟨hs, hb, hol, hls, u, rfl, hu⟩ := hI
    obtain ⟨o, ho⟩ : ∃ o, ops[i]? = some o := ⟨_, Array.getElem?_eq_getElem hm.1⟩
    have hg : o.guard = none := by
      have := List.all_eq_true.1 hgd o (Array.mem_toList_iff.2 (Array.mem_of_getElem? ho))
      simpa using this
    have hdone : ∀ j, depOn ops i j = true → L.getD j false = true := by
      intro j hj
      unfold depOn at hj
      rw [ho] at hj
      simp only [Option.map_some, Option.getD_some, List.any_eq_true, Bool.and_eq_true, beq_iff_eq] at hj
      obtain ⟨e, he, hbd, rfl⟩ := hj
      exact hm.2.2 o ho e he hbd
    have hlt : ∀ j, depOn ops i j = true → j < i := by
      intro j hj
      unfold depOn at hj
      rw [ho] at hj
      simp only [Option.map_some, Option.getD_some, List.any_eq_true, Bool.and_eq_true, beq_iff_eq] at hj
      obtain ⟨e, he, hbd, rfl⟩ := hj
      have h1 := List.all_eq_true.1 hlow i (List.mem_range.2 hm.1)
      rw [ho] at h1
      simp only [Option.map_some, Option.getD_some, List.all_eq_true] at h1
      have h2 := h1 e he
      rw [hbd] at h2
      simpa using h2
    unfold wpOp
    rw [ho]
    simp only
    rw [if_pos (by simp [Region.wanted, hg])]
    by_cases hin : i = n
    · subst hin
      have hd := hend o ho u W hb (fun j hj => hu j hj (hdone j (List.all_eq_true.1 hlast j (List.mem_range.2 hj))))
      refine .inl (hd.wp ?_)
      intro v W' hQ
      have hallt : ∀ j, j < ops.size → (L.setIfInBounds i true).getD j false = true := fun j hj => by
        by_cases h : i = j
        · subst h; exact set_at hL
        · rw [set_ne h]; exact hdone j (List.all_eq_true.1 hlast j (List.mem_range.2 (by omega)))
      have hr := hall (L.setIfInBounds i true) hallt (by simp [hs])
      cases fuel with
      | zero => exact ⟨hr, hQ⟩
      | succ fuel => exact ⟨fun _ => hQ, fun j hj => by rw [hr] at hj; cases hj⟩
    · have hi2 : i < n := by have := hm.1; omega
      have hd := hstep i o hi2 ho u W hb (fun k hk => hol i k hk (by simpa [Array.getD, hL] using h3)) (fun j hj => hu j (by have := hlt j hj; omega) (hdone j hj))
      refine .inl (hd.wp ?_)
      rintro v W' ⟨e1, hv, hb'⟩
      rw [e1]
      refine ih _ _ _ ⟨by simp [hs], hb.trans (hb'.more fun k hk => ⟨i, hk⟩), ?_, by rw [set_ne hin]; exact hls, _, rfl, ?_⟩ hcnt
      · intro j k hk hlj
        have hji : j ≠ i := fun e => by subst e; rw [set_at hL] at hlj; cases hlj
        rw [set_ne (Ne.symm hji)] at hlj
        have h1 := hown k ⟨j, hk⟩
        have h2 := hb.size
        rw [hb'.block k (by omega) (fun hk2 => hji (own_inj hnd hk hk2))]
        exact hol j k hk hlj
      · intro j hj hlj
        by_cases hji : j = i
        · subst hji; rw [if_pos rfl]; exact hv
        · rw [if_neg hji]
          rw [set_ne (Ne.symm hji)] at hlj
          exact (isAt Vs j).up _ _ _ _ (hu j hj hlj) hb' (fun k hk => ⟨hown k ⟨i, hk⟩, fun hk2 => hji (own_inj hnd hk2 hk)⟩)
theorem wp_region_last {id : Nat} {a : Act} (n : Nat) (mk : (Nat → Value) → Act) (Vs : List (Is base))
    (hm : Tryz.prog.follows .mixedOrders = true) (hn : ops.size = n + 1)
    (hlow : ((List.range ops.size).all fun i => ((ops[i]?).map fun o => o.after.toList.all fun e => !Region.binds .any e || decide (e.on < i)).getD true) = true)
    (hlast : ((List.range n).all fun i => depOn ops n i) = true)
    (hgd : ops.toList.all (fun o => o.guard.isNone) = true) (L : List Nat) (hL : Vs.filterMap (·.own) = L) (hbw : base ≤ w.heap.size) (hown : ∀ k ∈ L, k < base) (hnd : L.Nodup)
    (ha : ∃ u, a = mk u)
    (hstep : ∀ i o, i < n → ops[i]? = some o → ∀ u W, Fr (fun k => k ∈ L) w W → (∀ k, (isAt Vs i).own = some k → W.heap[k]? = w.heap[k]?) → (∀ j, depOn ops i j = true → (isAt Vs j).p (u j) W) → Step1 mk Vs i o u W)
    (hend : ∀ o, ops[n]? = some o → ∀ u W, Fr (fun k => k ∈ L) w W → (∀ i, i < n → (isAt Vs i).p (u i) W) → Does o (mk u) W (fun v W' => Q .normal ((mk u).put o.dst v) W')) : (Code.region id ops true).wp Tryz.prog Q a w := by
  subst hL
  refine wp_region_any hm (wpAny_last (w := w) mk Vs rfl hn hlow hlast hgd hbw (fun k hk => hown k (ownS_mem hk)) hnd (fun i o hi ho u W hf => hstep i o hi ho u W (hf.more fun _ => ownS_mem)) (fun o ho u W hf => hend o ho u W (hf.more fun _ => ownS_mem)) _ _ _ _ ⟨by simp, .of_below (Below.refl w.heap.size w).drew, fun _ _ _ _ => rfl, by simp [Array.getD, hn], ?_⟩ ?_)
  · obtain ⟨u, rfl⟩ := ha
    exact ⟨u, rfl, fun i hi h => by have : i < ops.size := by omega
                                    simp [Array.getD, this] at h⟩
  · simp
end
end Go.Proofs.YtpfplojkiloldaaGreatDoor
namespace Go.Proofs.YtpfplojkiloldaaGreatDoor
open Go.RowKit Go.Shelf
section
variable {a : Act} {o : Oper} {x y z : Operand} {w : World} {ad : Addr} {v : Value} {R : Value → World → Prop}
theorem Does.val {v : Value} {w' : World} (h : (execOp a.eval o).run Tryz.prog w = .ok (.value v) w') (hR : R v w') : Does o a w R := .inl ⟨v, w', h, hR⟩
theorem Does.skip {w' : World} (h : (execOp a.eval o).run Tryz.prog w = .ok .skip w') (hR : R undef w') : Does o a w R := .inr (.inl ⟨w', h, hR⟩)
theorem Does.call {f : FuncId} {args : Array Value} (h : (execOp a.eval o).run Tryz.prog w = .ok (.enter f args) w) (hR : Calls Tryz.prog f args w fun e w' => ∃ v, e = .returned v ∧ R v w') : Does o a w R := .inr (.inr ⟨f, args, h, hR⟩)
theorem op_mv (ho : o.op = .move x) (hx : a.eval x = v) : (execOp a.eval o).run Tryz.prog w = .ok (.value v) w := by
  unfold execOp
  simp only [ho, hx]
  simp [go_sem]
theorem op_as (ho : o.op = .assign x) (hx : a.eval x = v) : (execOp a.eval o).run Tryz.prog w = .ok (.value v) w := by
  unfold execOp
  simp only [ho, hx]
  simp [go_sem]
theorem op_sub {i j : Int} (ho : o.op = .binOp .sub 3 x y 3) (hx : a.eval x = .int .i64 i) (hy : a.eval y = .int .i64 j) : (execOp a.eval o).run Tryz.prog w = .ok (.value (.int .i64 (IntKind.i64.wrap (i - j)))) w := by
  unfold execOp
  simp only [ho, hx, hy]
  simp [go_sem]
theorem op_ldstr (ho : o.op = .load 9 x) (hx : a.eval x = .pointer (some ad)) (hc : w.cell? ad = some v) : (execOp a.eval o).run Tryz.prog w = .ok (.value v) w := by
  unfold execOp
  simp only [ho, hx]
  simp [go_sem, hc]
theorem op_ldbool (ho : o.op = .load 4 x) (hx : a.eval x = .pointer (some ad)) (hc : w.cell? ad = some v) : (execOp a.eval o).run Tryz.prog w = .ok (.value v) w := by
  unfold execOp
  simp only [ho, hx]
  simp [go_sem, hc]
theorem op_fae {b off : Nat} (ho : o.op = .fieldAddr 38 x 0) (hx : a.eval x = .pointer (some ⟨b, off, none⟩)) : (execOp a.eval o).run Tryz.prog w = .ok (.value (.pointer (some ⟨b, off, none⟩))) w := by
  unfold execOp
  simp only [ho, hx]
  simp [go_sem]
theorem op_call {f : FuncId} {t : TypeId} (hE : ∀ args w, (callFunc f args).run Tryz.prog w = .ok (.enter f args) w) (ho : o.op = .call { callee := .value (.func f), args := #[x], argTypes := #[t] }) (hx : a.eval x = v) : (execOp a.eval o).run Tryz.prog w = .ok (.enter f #[v]) w := by
  obtain ⟨dst, op, type, pos, after, guard⟩ := o
  simp only at ho
  subst ho
  rw [execOp_call_go]
  have e : (#[] ++ Array.map a.eval #[x] ++ #[] : Array Value) = #[v] := by simp [hx]
  rw [e]
  exact hE _ _
theorem ent_e : ∀ args w, (callFunc 148 args).run Tryz.prog w = .ok (.enter 148 args) w := fun args w => by kernel_rfl
theorem ent_i : ∀ args w, (callFunc 149 args).run Tryz.prog w = .ok (.enter 149 args) w := fun args w => by kernel_rfl
theorem ent_k : ∀ args w, (callFunc 150 args).run Tryz.prog w = .ok (.enter 150 args) w := fun args w => by kernel_rfl
theorem does_store {cs cs0 : Array Value} {g : Nat} (ho : o.op = .store 58 x y) (hx : a.eval x = .pointer (some ⟨g, 0, none⟩)) (hy : a.eval y = .agg cs) (h4 : ∃ b A1 n1 c1 A2 n2 c2 A3 n3 c3, cs = #[.bool b, .slice A1 n1 c1, .slice A2 n2 c2, .slice A3 n3 c3]) (hB : Blk w g 58 cs0) (h0 : cs0.size = 4) (hR : ∀ w', Blk w' g 58 cs → Fr (fun k => k = g) w w' → R undef w') : Does o a w R := by
  have key : ∃ w', (execOp a.eval o).run Tryz.prog w = .ok .skip w' ∧ Blk w' g 58 cs ∧ Fr (fun k => k = g) w w' := by
    obtain ⟨b, A1, n1, c1, A2, n2, c2, A3, n3, c3, rfl⟩ := h4
    obtain ⟨d0, d1, d2, d3, rfl⟩ : ∃ d0 d1 d2 d3, cs0 = #[d0, d1, d2, d3] := by
      obtain ⟨l⟩ := cs0
      match l, h0 with
      | [d0, d1, d2, d3], _ => exact ⟨d0, d1, d2, d3, rfl⟩
    have k0 := hB.cell 0
    have k1 := hB.cell 1
    have k2 := hB.cell 2
    have k3 := hB.cell 3
    have f0 := hB.frozen 0
    have f1 := hB.frozen 1
    have f2 := hB.frozen 2
    have f3 := hB.frozen 3
    have b1 := hB.set_ 0 (.bool b)
    have b2 := b1.set_ 1 (.slice A1 n1 c1)
    have b3 := b2.set_ 2 (.slice A2 n2 c2)
    have b4 := b3.set_ 3 (.slice A3 n3 c3)
    refine ⟨_, ?_, by simpa using b4, ?_⟩
    rotate_left 2
    · unfold execOp
      simp only [ho, hx, hy]
      simp [go_sem, k0, k1, k2, k3, f0, f1, f2, f3]
    · have hs : ∀ (W : World) (i : Nat) (v : Value), Fr (fun k => k = g) W (W.setCell ⟨g, i, none⟩ v) := fun W i v => Fr.set_ (S := fun k => k = g) rfl v
      exact ((hs _ _ _).trans (hs _ _ _)).trans ((hs _ _ _).trans (hs _ _ _))
  obtain ⟨w', hr, h1, h2⟩ := key
  exact Does.skip hr (hR w' h1 h2)
theorem op_fan0 {b : Nat} (ho : o.op = .fieldAddr 58 x 0) (hx : a.eval x = .pointer (some ⟨b, 0, none⟩)) : (execOp a.eval o).run Tryz.prog w = .ok (.value (.pointer (some ⟨b, 0, none⟩))) w := by
  unfold execOp
  simp only [ho, hx]
  simp [go_sem]
theorem op_fan1 {b : Nat} (ho : o.op = .fieldAddr 58 x 1) (hx : a.eval x = .pointer (some ⟨b, 0, none⟩)) : (execOp a.eval o).run Tryz.prog w = .ok (.value (.pointer (some ⟨b, 1, none⟩))) w := by
  unfold execOp
  simp only [ho, hx]
  simp [go_sem]
theorem op_fan2 {b : Nat} (ho : o.op = .fieldAddr 58 x 2) (hx : a.eval x = .pointer (some ⟨b, 0, none⟩)) : (execOp a.eval o).run Tryz.prog w = .ok (.value (.pointer (some ⟨b, 2, none⟩))) w := by
  unfold execOp
  simp only [ho, hx]
  simp [go_sem]
theorem op_fan3 {b : Nat} (ho : o.op = .fieldAddr 58 x 3) (hx : a.eval x = .pointer (some ⟨b, 0, none⟩)) : (execOp a.eval o).run Tryz.prog w = .ok (.value (.pointer (some ⟨b, 3, none⟩))) w := by
  unfold execOp
  simp only [ho, hx]
  simp [go_sem]
theorem size_ents (W : World) : (sizeOf (Tryz.prog.elem 32)).run Tryz.prog W = .ok 2 W := size_ent W
theorem und_ents : Tryz.prog.underlying 32 = some (.slice (Tryz.prog.elem 32)) := und_ent
theorem op_ld_ents (ho : o.op = .load 32 x) (hx : a.eval x = .pointer (some ad)) (hc : w.cell? ad = some v) : (execOp a.eval o).run Tryz.prog w = .ok (.value v) w := by
  unfold execOp
  simp only [ho, hx]
  simp [go_sem, hc]
theorem cut_ents_to (A : Option Addr) (n c i : Nat) (hi : i ≤ c) (W : World) : (Instr.slice 32 (.slice A n c) none (some (.int .i64 i)) none).run Tryz.prog W = .ok (.slice A i c) W := by
  rw [run_slice_h W 32 A n c und_ents .i64 (i : Int) (by omega) (by omega), size_ents]
  simp only [Result.andThen_ok, sliced, Int.toNat_natCast, Nat.zero_mul, Nat.sub_zero]
  have e : (if c = 0 then A else A.map (·.add 0)) = A := by
    split
    · rfl
    · cases A <;> rfl
  rw [e]
theorem cut_ents_from (A : Option Addr) (n c i : Nat) (hi : i ≤ n) (W : World) : (Instr.slice 32 (.slice A n c) (some (.int .i64 i)) none none).run Tryz.prog W = .ok (.slice (if c = i then A else A.map (·.add (i * 2))) (n - i) (c - i)) W := by
  rw [run_slice_l W 32 A n c und_ents .i64 (i : Int) (by omega) (by omega), size_ents]
  simp only [Result.andThen_ok, sliced, Int.toNat_natCast]
theorem op_sl_ents_to {A : Option Addr} {n c i : Nat} (ho : o.op = .slice 32 x none (some y) none) (hx : a.eval x = .slice A n c) (hy : a.eval y = .int .i64 i) (hi : i ≤ c) : (execOp a.eval o).run Tryz.prog w = .ok (.value (.slice A i c)) w := by
  unfold execOp
  simp only [ho, hx, Option.map_some, Option.map_none, hy]
  simp [run_sliceAt_slice _ _ _ _ _ _ und_ents, cut_ents_to A n c i hi]
theorem op_sl_ents_from {A : Option Addr} {n c i : Nat} (ho : o.op = .slice 32 x (some y) none none) (hx : a.eval x = .slice A n c) (hy : a.eval y = .int .i64 i) (hi : i ≤ n) : (execOp a.eval o).run Tryz.prog w = .ok (.value (.slice (if c = i then A else A.map (·.add (i * 2))) (n - i) (c - i))) w := by
  unfold execOp
  simp only [ho, hx, Option.map_some, Option.map_none, hy]
  simp [run_sliceAt_slice _ _ _ _ _ _ und_ents, cut_ents_from A n c i hi]
theorem op_bs_ents1 {A0 : Option Addr} {n0 c0 : Nat} (ho : o.op = .buildSlice 78 1 #[(0, x)]) (h0 : a.eval x = .slice A0 n0 c0) : (execOp a.eval o).run Tryz.prog w = .ok (.value (.slice (some ⟨w.heap.size, 0, none⟩) 1 1)) (w.alloc (.cells #[.slice A0 n0 c0] 32)) := by
  unfold execOp
  simp only [ho, List.map_toArray, List.map_cons, List.map_nil, h0]
  simp [go_sem]
theorem op_bs_ents2 {A0 : Option Addr} {n0 c0 : Nat} {A1 : Option Addr} {n1 c1 : Nat} (ho : o.op = .buildSlice 78 2 #[(0, x), (1, y)]) (h0 : a.eval x = .slice A0 n0 c0) (h1 : a.eval y = .slice A1 n1 c1) : (execOp a.eval o).run Tryz.prog w = .ok (.value (.slice (some ⟨w.heap.size, 0, none⟩) 2 2)) (w.alloc (.cells #[.slice A0 n0 c0, .slice A1 n1 c1] 32)) := by
  unfold execOp
  simp only [ho, List.map_toArray, List.map_cons, List.map_nil, h0, h1]
  simp [go_sem]
theorem op_bs_ents3 {A0 : Option Addr} {n0 c0 : Nat} {A1 : Option Addr} {n1 c1 : Nat} {A2 : Option Addr} {n2 c2 : Nat} (ho : o.op = .buildSlice 78 3 #[(0, x), (1, y), (2, z)]) (h0 : a.eval x = .slice A0 n0 c0) (h1 : a.eval y = .slice A1 n1 c1) (h2 : a.eval z = .slice A2 n2 c2) : (execOp a.eval o).run Tryz.prog w = .ok (.value (.slice (some ⟨w.heap.size, 0, none⟩) 3 3)) (w.alloc (.cells #[.slice A0 n0 c0, .slice A1 n1 c1, .slice A2 n2 c2] 32)) := by
  unfold execOp
  simp only [ho, List.map_toArray, List.map_cons, List.map_nil, h0, h1, h2]
  simp [go_sem]
theorem size_ints (W : World) : (sizeOf (Tryz.prog.elem 55)).run Tryz.prog W = .ok 1 W := by kernel_rfl
theorem und_ints : Tryz.prog.underlying 55 = some (.slice (Tryz.prog.elem 55)) := by kernel_rfl
theorem op_ld_ints (ho : o.op = .load 55 x) (hx : a.eval x = .pointer (some ad)) (hc : w.cell? ad = some v) : (execOp a.eval o).run Tryz.prog w = .ok (.value v) w := by
  unfold execOp
  simp only [ho, hx]
  simp [go_sem, hc]
theorem cut_ints_to (A : Option Addr) (n c i : Nat) (hi : i ≤ c) (W : World) : (Instr.slice 55 (.slice A n c) none (some (.int .i64 i)) none).run Tryz.prog W = .ok (.slice A i c) W := by
  rw [run_slice_h W 55 A n c und_ints .i64 (i : Int) (by omega) (by omega), size_ints]
  simp only [Result.andThen_ok, sliced, Int.toNat_natCast, Nat.zero_mul, Nat.sub_zero]
  have e : (if c = 0 then A else A.map (·.add 0)) = A := by
    split
    · rfl
    · cases A <;> rfl
  rw [e]
theorem cut_ints_from (A : Option Addr) (n c i : Nat) (hi : i ≤ n) (W : World) : (Instr.slice 55 (.slice A n c) (some (.int .i64 i)) none none).run Tryz.prog W = .ok (.slice (if c = i then A else A.map (·.add (i * 1))) (n - i) (c - i)) W := by
  rw [run_slice_l W 55 A n c und_ints .i64 (i : Int) (by omega) (by omega), size_ints]
  simp only [Result.andThen_ok, sliced, Int.toNat_natCast]
theorem op_sl_ints_to {A : Option Addr} {n c i : Nat} (ho : o.op = .slice 55 x none (some y) none) (hx : a.eval x = .slice A n c) (hy : a.eval y = .int .i64 i) (hi : i ≤ c) : (execOp a.eval o).run Tryz.prog w = .ok (.value (.slice A i c)) w := by
  unfold execOp
  simp only [ho, hx, Option.map_some, Option.map_none, hy]
  simp [run_sliceAt_slice _ _ _ _ _ _ und_ints, cut_ints_to A n c i hi]
theorem op_sl_ints_from {A : Option Addr} {n c i : Nat} (ho : o.op = .slice 55 x (some y) none none) (hx : a.eval x = .slice A n c) (hy : a.eval y = .int .i64 i) (hi : i ≤ n) : (execOp a.eval o).run Tryz.prog w = .ok (.value (.slice (if c = i then A else A.map (·.add (i * 1))) (n - i) (c - i))) w := by
  unfold execOp
  simp only [ho, hx, Option.map_some, Option.map_none, hy]
  simp [run_sliceAt_slice _ _ _ _ _ _ und_ints, cut_ints_from A n c i hi]
theorem op_bs_ints1 {A0 : Option Addr} {n0 c0 : Nat} (ho : o.op = .buildSlice 244 1 #[(0, x)]) (h0 : a.eval x = .slice A0 n0 c0) : (execOp a.eval o).run Tryz.prog w = .ok (.value (.slice (some ⟨w.heap.size, 0, none⟩) 1 1)) (w.alloc (.cells #[.slice A0 n0 c0] 55)) := by
  unfold execOp
  simp only [ho, List.map_toArray, List.map_cons, List.map_nil, h0]
  simp [go_sem]
theorem op_bs_ints2 {A0 : Option Addr} {n0 c0 : Nat} {A1 : Option Addr} {n1 c1 : Nat} (ho : o.op = .buildSlice 244 2 #[(0, x), (1, y)]) (h0 : a.eval x = .slice A0 n0 c0) (h1 : a.eval y = .slice A1 n1 c1) : (execOp a.eval o).run Tryz.prog w = .ok (.value (.slice (some ⟨w.heap.size, 0, none⟩) 2 2)) (w.alloc (.cells #[.slice A0 n0 c0, .slice A1 n1 c1] 55)) := by
  unfold execOp
  simp only [ho, List.map_toArray, List.map_cons, List.map_nil, h0, h1]
  simp [go_sem]
theorem op_bs_ints3 {A0 : Option Addr} {n0 c0 : Nat} {A1 : Option Addr} {n1 c1 : Nat} {A2 : Option Addr} {n2 c2 : Nat} (ho : o.op = .buildSlice 244 3 #[(0, x), (1, y), (2, z)]) (h0 : a.eval x = .slice A0 n0 c0) (h1 : a.eval y = .slice A1 n1 c1) (h2 : a.eval z = .slice A2 n2 c2) : (execOp a.eval o).run Tryz.prog w = .ok (.value (.slice (some ⟨w.heap.size, 0, none⟩) 3 3)) (w.alloc (.cells #[.slice A0 n0 c0, .slice A1 n1 c1, .slice A2 n2 c2] 55)) := by
  unfold execOp
  simp only [ho, List.map_toArray, List.map_cons, List.map_nil, h0, h1, h2]
  simp [go_sem]
theorem size_keys (W : World) : (sizeOf (Tryz.prog.elem 56)).run Tryz.prog W = .ok 1 W := by kernel_rfl
theorem und_keys : Tryz.prog.underlying 56 = some (.slice (Tryz.prog.elem 56)) := by kernel_rfl
theorem op_ld_keys (ho : o.op = .load 56 x) (hx : a.eval x = .pointer (some ad)) (hc : w.cell? ad = some v) : (execOp a.eval o).run Tryz.prog w = .ok (.value v) w := by
  unfold execOp
  simp only [ho, hx]
  simp [go_sem, hc]
theorem cut_keys_to (A : Option Addr) (n c i : Nat) (hi : i ≤ c) (W : World) : (Instr.slice 56 (.slice A n c) none (some (.int .i64 i)) none).run Tryz.prog W = .ok (.slice A i c) W := by
  rw [run_slice_h W 56 A n c und_keys .i64 (i : Int) (by omega) (by omega), size_keys]
  simp only [Result.andThen_ok, sliced, Int.toNat_natCast, Nat.zero_mul, Nat.sub_zero]
  have e : (if c = 0 then A else A.map (·.add 0)) = A := by
    split
    · rfl
    · cases A <;> rfl
  rw [e]
theorem cut_keys_from (A : Option Addr) (n c i : Nat) (hi : i ≤ n) (W : World) : (Instr.slice 56 (.slice A n c) (some (.int .i64 i)) none none).run Tryz.prog W = .ok (.slice (if c = i then A else A.map (·.add (i * 1))) (n - i) (c - i)) W := by
  rw [run_slice_l W 56 A n c und_keys .i64 (i : Int) (by omega) (by omega), size_keys]
  simp only [Result.andThen_ok, sliced, Int.toNat_natCast]
theorem op_sl_keys_to {A : Option Addr} {n c i : Nat} (ho : o.op = .slice 56 x none (some y) none) (hx : a.eval x = .slice A n c) (hy : a.eval y = .int .i64 i) (hi : i ≤ c) : (execOp a.eval o).run Tryz.prog w = .ok (.value (.slice A i c)) w := by
  unfold execOp
  simp only [ho, hx, Option.map_some, Option.map_none, hy]
  simp [run_sliceAt_slice _ _ _ _ _ _ und_keys, cut_keys_to A n c i hi]
theorem op_sl_keys_from {A : Option Addr} {n c i : Nat} (ho : o.op = .slice 56 x (some y) none none) (hx : a.eval x = .slice A n c) (hy : a.eval y = .int .i64 i) (hi : i ≤ n) : (execOp a.eval o).run Tryz.prog w = .ok (.value (.slice (if c = i then A else A.map (·.add (i * 1))) (n - i) (c - i))) w := by
  unfold execOp
  simp only [ho, hx, Option.map_some, Option.map_none, hy]
  simp [run_sliceAt_slice _ _ _ _ _ _ und_keys, cut_keys_from A n c i hi]
theorem op_bs_keys1 {A0 : Option Addr} {n0 c0 : Nat} (ho : o.op = .buildSlice 245 1 #[(0, x)]) (h0 : a.eval x = .slice A0 n0 c0) : (execOp a.eval o).run Tryz.prog w = .ok (.value (.slice (some ⟨w.heap.size, 0, none⟩) 1 1)) (w.alloc (.cells #[.slice A0 n0 c0] 56)) := by
  unfold execOp
  simp only [ho, List.map_toArray, List.map_cons, List.map_nil, h0]
  simp [go_sem]
theorem op_bs_keys2 {A0 : Option Addr} {n0 c0 : Nat} {A1 : Option Addr} {n1 c1 : Nat} (ho : o.op = .buildSlice 245 2 #[(0, x), (1, y)]) (h0 : a.eval x = .slice A0 n0 c0) (h1 : a.eval y = .slice A1 n1 c1) : (execOp a.eval o).run Tryz.prog w = .ok (.value (.slice (some ⟨w.heap.size, 0, none⟩) 2 2)) (w.alloc (.cells #[.slice A0 n0 c0, .slice A1 n1 c1] 56)) := by
  unfold execOp
  simp only [ho, List.map_toArray, List.map_cons, List.map_nil, h0, h1]
  simp [go_sem]
theorem op_bs_keys3 {A0 : Option Addr} {n0 c0 : Nat} {A1 : Option Addr} {n1 c1 : Nat} {A2 : Option Addr} {n2 c2 : Nat} (ho : o.op = .buildSlice 245 3 #[(0, x), (1, y), (2, z)]) (h0 : a.eval x = .slice A0 n0 c0) (h1 : a.eval y = .slice A1 n1 c1) (h2 : a.eval z = .slice A2 n2 c2) : (execOp a.eval o).run Tryz.prog w = .ok (.value (.slice (some ⟨w.heap.size, 0, none⟩) 3 3)) (w.alloc (.cells #[.slice A0 n0 c0, .slice A1 n1 c1, .slice A2 n2 c2] 56)) := by
  unfold execOp
  simp only [ho, List.map_toArray, List.map_cons, List.map_nil, h0, h1, h2]
  simp [go_sem]
theorem op_bs_str {s : ByteArray} (ho : o.op = .buildSlice 56 1 #[(0, x)]) (hx : a.eval x = .string s) : (execOp a.eval o).run Tryz.prog w = .ok (.value (.slice (some ⟨w.heap.size, 0, none⟩) 1 1)) (w.alloc (.cells #[.string s] 9)) := by
  unfold execOp
  simp only [ho, List.map_toArray, List.map_cons, List.map_nil, hx]
  simp [go_sem]
theorem op_ia_ents {b off n c i : Nat} (ho : o.op = .indexAddr 32 x y) (hx : a.eval x = .slice (some ⟨b, off, none⟩) n c) (hy : a.eval y = .int .i64 i) (hi : i < n) : (execOp a.eval o).run Tryz.prog w = .ok (.value (.pointer (some ⟨b, off + i * 2, none⟩))) w := by
  unfold execOp
  simp only [ho, hx, hy]
  have h1 : (i : Int) < n := by omega
  simp [go_sem, h1]
theorem op_ia_keys {b off n c i : Nat} (ho : o.op = .indexAddr 56 x y) (hx : a.eval x = .slice (some ⟨b, off, none⟩) n c) (hy : a.eval y = .int .i64 i) (hi : i < n) : (execOp a.eval o).run Tryz.prog w = .ok (.value (.pointer (some ⟨b, off + i, none⟩))) w := by
  unfold execOp
  simp only [ho, hx, hy]
  have h1 : (i : Int) < n := by omega
  simp [go_sem, h1]
theorem op_bd_all {x0 x1 x2 x3 : Operand} {A1 : Option Addr} {n1 c1 : Nat} {A2 : Option Addr} {n2 c2 : Nat} {A3 : Option Addr} {n3 c3 : Nat} {b : Bool} (ho : o.op = .build 58 #[(0, x0), (1, x1), (2, x2), (3, x3)]) (h0 : a.eval x0 = .bool b) (h1 : a.eval x1 = .slice A1 n1 c1) (h2 : a.eval x2 = .slice A2 n2 c2) (h3 : a.eval x3 = .slice A3 n3 c3) : (execOp a.eval o).run Tryz.prog w = .ok (.value (.agg #[.bool b, .slice A1 n1 c1, .slice A2 n2 c2, .slice A3 n3 c3])) w := by
  unfold execOp
  simp only [ho, List.map_toArray, List.map_cons, List.map_nil, h0, h1, h2, h3]
  simp [go_sem]
theorem op_bd_leaf {x0 x1 : Operand} {A1 : Option Addr} {n1 c1 : Nat} {b : Bool} (ho : o.op = .build 58 #[(0, x0), (1, x1)]) (h0 : a.eval x0 = .bool b) (h1 : a.eval x1 = .slice A1 n1 c1) : (execOp a.eval o).run Tryz.prog w = .ok (.value (.agg #[.bool b, .slice A1 n1 c1, .slice none 0 0, .slice none 0 0])) w := by
  unfold execOp
  simp only [ho, List.map_toArray, List.map_cons, List.map_nil, h0, h1]
  simp [go_sem]
theorem op_bd_in {x2 x3 : Operand} {A2 : Option Addr} {n2 c2 : Nat} {A3 : Option Addr} {n3 c3 : Nat} (ho : o.op = .build 58 #[(2, x2), (3, x3)]) (h2 : a.eval x2 = .slice A2 n2 c2) (h3 : a.eval x3 = .slice A3 n3 c3) : (execOp a.eval o).run Tryz.prog w = .ok (.value (.agg #[.bool false, .slice none 0 0, .slice A2 n2 c2, .slice A3 n3 c3])) w := by
  unfold execOp
  simp only [ho, List.map_toArray, List.map_cons, List.map_nil, h2, h3]
  simp [go_sem]
theorem op_bd_join {x1 x2 x3 : Operand} {A1 : Option Addr} {n1 c1 : Nat} {A2 : Option Addr} {n2 c2 : Nat} {A3 : Option Addr} {n3 c3 : Nat} (ho : o.op = .build 58 #[(1, x1), (2, x2), (3, x3)]) (h1 : a.eval x1 = .slice A1 n1 c1) (h2 : a.eval x2 = .slice A2 n2 c2) (h3 : a.eval x3 = .slice A3 n3 c3) : (execOp a.eval o).run Tryz.prog w = .ok (.value (.agg #[.bool false, .slice A1 n1 c1, .slice A2 n2 c2, .slice A3 n3 c3])) w := by
  unfold execOp
  simp only [ho, List.map_toArray, List.map_cons, List.map_nil, h1, h2, h3]
  simp [go_sem]
end
/-- three rows, the one in the middle a key alone, built by the region -/
def Is.key3 (base : Nat) (c0 c2 : Value) (key : ByteArray) : Is base := ⟨none, fun v W => ∃ b b', base ≤ b ∧ base ≤ b' ∧ v = .slice (some ⟨b, 0, none⟩) 3 3 ∧ Blk W b 56 #[c0, .slice (some ⟨b', 0, none⟩) 1 1, c2] ∧ Blk W b' 9 #[.string key], fun _ _ _ _ ⟨b, b', h0, h0', h1, h2, h3⟩ hf hS => ⟨b, b', h0, h0', h1, hf.blk h2 (fun a => by have := hS b a; omega), hf.blk h3 (fun a => by have := hS b' a; omega)⟩⟩
theorem ls_one {W : World} {b B : Nat} {key : ByteArray} (h : Blk W b 9 #[.string key]) (hb : b < B) : LS keyE W B (some ⟨b, 0, none⟩) [key] := by
  refine ⟨rfl, fun _ => ⟨⟨b, 0, none⟩, rfl, hb, fun j u hu => ?_⟩⟩
  have e : keyE.cells [key] = [.string key] := by simp [Enc.cells, keyE]
  rw [e] at hu
  have hj : j = 0 := by
    cases j with
    | zero => rfl
    | succ j => simp at hu
  subst hj
  have := h.cell 0
  simp at hu
  subst hu
  simpa [Addr.add] using this
/-- a struct of so many cells -/
def StructT (ty : TypeId) (n : Nat) : Prop := ∃ fs, Tryz.prog.underlying ty = some (.struct fs) ∧ (Tryz.prog.info? ty).map (·.size) = some n
theorem node_struct : StructT 58 4 := ⟨_, Tryz.underlying58, by kernel_rfl⟩
section
variable {fn : Func} {p q u : Tmp} {ty ty' : TypeId} {tmps : Array Value} {w : World} {g g' n n' : Nat} {cs cs' : Array Value}
theorem loadVar_blk (hT : StructT ty n) (hB : Blk w g ty cs) (hn : cs.size = n) : (loadVar ty ⟨g, 0, none⟩).run Tryz.prog w = .ok (.agg cs) w := by
  obtain ⟨d, h1, h3⟩ := hT
  exact run_loadVar_row w g ty ty cs (0, 0) _ hB h1 rfl (by rw [h3, hn])
theorem res_cell (hT : StructT ty n) (h : fn.results = #[.cell p ty]) (hp : tmps.getD p undef = .pointer (some ⟨g, 0, none⟩)) (hB : Blk w g ty cs) (hn : cs.size = n) : (results fn tmps).run Tryz.prog w = .ok (.agg cs) w := by
  have hp' : tmps[p]?.getD undef = .pointer (some ⟨g, 0, none⟩) := by simpa using hp
  simp [results, h, hp', asAddr, loadVar_blk hT hB hn]
theorem res_cell_tmp (hT : StructT ty n) (h : fn.results = #[.cell p ty, .tmp u]) (hp : tmps.getD p undef = .pointer (some ⟨g, 0, none⟩)) (hB : Blk w g ty cs) (hn : cs.size = n) : (results fn tmps).run Tryz.prog w = .ok (.tuple #[.agg cs, tmps.getD u undef]) w := by
  have hp' : tmps[p]?.getD undef = .pointer (some ⟨g, 0, none⟩) := by simpa using hp
  simp only [results, h]
  simp [hp', asAddr, loadVar_blk hT hB hn]
theorem res_cell_tmp_cell (hT : StructT ty n) (hT' : StructT ty' n') (h : fn.results = #[.cell p ty, .tmp u, .cell q ty']) (hp : tmps.getD p undef = .pointer (some ⟨g, 0, none⟩)) (hB : Blk w g ty cs) (hn : cs.size = n) (hq : tmps.getD q undef = .pointer (some ⟨g', 0, none⟩)) (hB' : Blk w g' ty' cs') (hn' : cs'.size = n') : (results fn tmps).run Tryz.prog w = .ok (.tuple #[.agg cs, tmps.getD u undef, .agg cs']) w := by
  have hp' : tmps[p]?.getD undef = .pointer (some ⟨g, 0, none⟩) := by simpa using hp
  have hq' : tmps[q]?.getD undef = .pointer (some ⟨g', 0, none⟩) := by simpa using hq
  simp only [results, h]
  simp [hp', hq', asAddr, loadVar_blk hT hB hn, loadVar_blk hT' hB' hn']
end
end Go.Proofs.YtpfplojkiloldaaGreatDoor
