/- Regions, in whatever order; the rules of the code's forms; contracts of calls. No program in sight. -/
import Derived.Test.YtklikgigjdgjaaaGreatDoorRRRA1
namespace Go.Proofs.YtklikgigjdgjaaaGreatDoorRRR
open Go Go.RowKit

section region
variable {P : Program} {ops : Array Oper} {c : Cx} {p : Plan} {Q : Exit → Act → World → Prop}

/-- What is asked of a region's operations. -/
def Plan.Ok (P : Program) (G : FP) (ops : Array Oper) (p : Plan) : List Oper → Nat → Prop
  | [], _ => True
  | o :: l, i => (o.dst = (p.op i).dst ∧ ∀ β, GOk P G ops o ((p.op i).needs.map (p.E β)) ((p.op i).cons.map (p.E β)) (fun v => (p.op i).gives.map (p.E fun k => if k = i then v else β k))) ∧ p.Ok P G ops l (i + 1)

theorem Plan.Ok.get {G : FP} : ∀ {l : List Oper} {i : Nat}, p.Ok P G ops l i → ∀ (j : Nat) (o : Oper), l[j]? = some o →
    o.dst = (p.op (i + j)).dst ∧ ∀ β, GOk P G ops o ((p.op (i + j)).needs.map (p.E β)) ((p.op (i + j)).cons.map (p.E β)) (fun v => (p.op (i + j)).gives.map (p.E fun k => if k = i + j then v else β k))
  | [], _, _, j, o, h => by simp at h
  | x :: l, i, h, 0, o, ho => by simp at ho; subst ho; exact h.1
  | x :: l, i, h, j + 1, o, ho => by
    simp at ho
    have := Plan.Ok.get h.2 j o ho
    rwa [show i + 1 + j = i + (j + 1) by omega] at this

/-- The orders that the plan counts on hold in the text's order. -/
def Plan.checkSeq (p : Plan) : Bool := (List.range p.ops.length).all fun i => (p.op i).bf.all fun j => decide (j < i)

theorem wpOps_plan (hn : p.n = c.n) (hc : p.check = true) (hseq : p.checkSeq = true) (hlen : p.ops.length = ops.size) (hops : p.Ok P c.G ops ops.toList 0)
    (hQ : ∀ a w β, Sat c (p.E β) (p.alive fun k => k < p.ops.length) a w → Q .normal a w) :
    ∀ (m k : Nat), k + m = ops.size → ∀ (a : Act) (w : World) (β : Nat → Value), Sat c (p.E β) (p.alive fun j => j < k) a w → wpOps P ops Q (List.range' k m) a w
  | 0, k, hk, a, w, β, hs => by
    have : k = p.ops.length := by omega
    subst this
    exact hQ a w β hs
  | m + 1, k, hk, a, w, β, hs => by
    have hkl : k < ops.size := by omega
    have ho : ops[k]? = some ops[k] := Array.getElem?_eq_getElem hkl
    have hbf : ∀ i, i < p.ops.length → ∀ j ∈ (p.op i).bf, j < i := fun i hi j hj => by
      have := (List.all_eq_true.1 ((List.all_eq_true.1 hseq) i (List.mem_range.2 hi))) j hj
      simpa using this
    obtain ⟨hd, hg⟩ := hops.get k ops[k] (by simp)
    rw [Nat.zero_add] at hd hg
    simp only [List.range'_succ, wpOps, ho]
    refine Plan.step (P := P) (ops := ops) (listed := fun j => j < k) (i := k) hn hc (by omega) (by simp) (fun j hj => hbf k (by omega) j hj)
      (fun j k' hk' hj => by have := hbf k' (by omega) j hj; omega) (fun j hj => by omega) hd hg hs _ _ fun a' w' β' h' => ?_
    refine wpOps_plan hn hc hseq hlen hops hQ m (k + 1) (by omega) a' w' β' ?_
    have e : (fun j => j < k ∨ j = k) = (fun j => j < k + 1) := by funext j; exact propext (by omega)
    rwa [e] at h'

/-- A region whose order is the text's. -/
theorem region_seq {id : Nat} {a : Act} {w : World} (p : Plan) (hn : p.n = c.n) (hc : p.check = true) (hseq : p.checkSeq = true) (hlen : p.ops.length = ops.size) (hops : p.Ok P c.G ops ops.toList 0)
    (hs : Sat c (p.E fun _ => undef) (p.alive fun _ => False) a w)
    (hQ : ∀ a w β, Sat c (p.E β) (p.alive fun k => k < p.ops.length) a w → Q .normal a w) : (Code.region id ops false).wp P Q a w := by
  refine wp_region ?_
  rw [List.range_eq_range']
  refine wpOps_plan hn hc hseq hlen hops hQ ops.size 0 (by omega) a w (fun _ => undef) ?_
  have e : (fun j : Nat => j < 0) = (fun _ => False) := by funext j; exact propext ⟨fun h => by omega, False.elim⟩
  rw [e]; exact hs

/-- The operations that must come right before the i-th. -/
def direct (ops : Array Oper) (i : Nat) : List Nat := ((ops[i]?).map fun o => (o.after.toList.filter fun e => Region.binds .any e).map (·.on)).getD []

/-- The orders that the plan counts on hold in every order that the edges allow. -/
def Plan.checkAny (p : Plan) (ops : Array Oper) : Bool := (List.range p.ops.length).all fun i =>
  ((p.op i).bf.all fun x => (direct ops i).contains x || (direct ops i).any fun e => (p.op e).bf.contains x) && (direct ops i).all fun x => decide (x < i)

theorem ready_spec {listed : Array Bool} {i : Nat} (h : i ∈ Region.ready .any ops listed) :
    i < ops.size ∧ listed.getD i true = false ∧ ∀ x ∈ direct ops i, listed.getD x false = true := by
  obtain ⟨h1, h2⟩ := List.mem_filter.1 h
  have hi := List.mem_range.1 h1
  have ho : ops[i]? = some ops[i] := Array.getElem?_eq_getElem hi
  simp only [ho, Option.map_some, Option.getD_some, Bool.and_eq_true] at h2
  refine ⟨hi, by simpa using h2.1, fun x hx => ?_⟩
  simp only [direct, ho, Option.map_some, Option.getD_some] at hx
  obtain ⟨e, he, rfl⟩ := List.mem_map.1 hx
  obtain ⟨he1, he2⟩ := List.mem_filter.1 he
  have := (Array.all_eq_true_iff_forall_mem.1 h2.2) e (Array.mem_toList_iff.1 he1)
  simpa [he2] using this

theorem ready_of {listed : Array Bool} {i : Nat} (hi : i < ops.size) (hl : listed.getD i true = false) (h : ∀ x ∈ direct ops i, listed.getD x false = true) : i ∈ Region.ready .any ops listed := by
  have ho : ops[i]? = some ops[i] := Array.getElem?_eq_getElem hi
  refine List.mem_filter.2 ⟨List.mem_range.2 hi, ?_⟩
  simp only [ho, Option.map_some, Option.getD_some, Bool.and_eq_true, hl, Bool.not_false, true_and]
  refine Array.all_eq_true_iff_forall_mem.2 fun e he => ?_
  by_cases hb : Region.binds .any e = true
  · simp only [hb, Bool.not_true, Bool.false_or]
    refine h e.on ?_
    simp only [direct, ho, Option.map_some, Option.getD_some]
    exact List.mem_map.2 ⟨e, List.mem_filter.2 ⟨Array.mem_toList_iff.2 he, hb⟩, rfl⟩
  · simp [hb]

/-- How many operations are not done yet. -/
def open_ (listed : Array Bool) : Nat := (listed.toList.filter (!·)).length

theorem open_set {listed : Array Bool} {i : Nat} (h : listed[i]? = some false) : open_ (listed.setIfInBounds i true) + 1 = open_ listed := by
  obtain ⟨l⟩ := listed
  simp only [open_, List.setIfInBounds_toArray]
  simp only [List.getElem?_toArray] at h
  induction l generalizing i with
  | nil => simp at h
  | cons x l ih =>
    cases i with
    | zero => simp at h; subst h; simp
    | succ i =>
      simp at h
      have := ih h
      cases x <;> simp_all <;> omega

theorem open_zero {listed : Array Bool} (h : open_ listed = 0) (i : Nat) (hi : i < listed.size) : listed[i]? = some true := by
  obtain ⟨l⟩ := listed
  simp only [open_, List.length_eq_zero_iff, List.filter_eq_nil_iff] at h
  have := h l[i] (List.getElem_mem (by simpa using hi))
  simp at hi
  simp [hi] at this ⊢
  exact this

theorem wpAny_plan (hn : p.n = c.n) (hc : p.check = true) (hany : p.checkAny ops = true) (hlen : p.ops.length = ops.size) (hops : p.Ok P c.G ops ops.toList 0)
    (hQ : ∀ a w β, Sat c (p.E β) (p.alive fun k => k < p.ops.length) a w → Q .normal a w) :
    ∀ (fuel : Nat) (listed : Array Bool), listed.size = ops.size → open_ listed = fuel → (∀ k, listed[k]? = some true → ∀ j ∈ (p.op k).bf, listed[j]? = some true) →
      ∀ (a : Act) (w : World) (β : Nat → Value), Sat c (p.E β) (p.alive fun j => listed[j]? = some true) a w → wpAny P .any ops Q fuel listed a w := by
  have hbf : ∀ i, i < p.ops.length → (∀ x ∈ (p.op i).bf, x ∈ direct ops i ∨ ∃ e ∈ direct ops i, x ∈ (p.op e).bf) ∧ ∀ x ∈ direct ops i, x < i := fun i hi => by
    have := (List.all_eq_true.1 hany) i (List.mem_range.2 hi)
    simp only [Bool.and_eq_true, List.all_eq_true, decide_eq_true_eq] at this
    refine ⟨fun x hx => ?_, this.2⟩
    have h := this.1 x hx
    simp only [Bool.or_eq_true] at h
    rcases h with h | h
    · exact .inl (by simpa using h)
    · obtain ⟨e, he, hx⟩ := List.any_eq_true.1 h
      exact .inr ⟨e, he, by simpa using hx⟩
  -- if nothing is ready, all is done
  have hdone : ∀ (listed : Array Bool), listed.size = ops.size → Region.ready .any ops listed = [] → ∀ k, k < ops.size → listed[k]? = some true := by
    intro listed hsz hr k
    induction k using Nat.strongRecOn with
    | _ k ih =>
      intro hk
      have hk' : k < listed.size := by omega
      cases hl : listed[k] with
      | true => simp [Array.getElem?_eq_getElem hk', hl]
      | false =>
        exfalso
        have hm : k ∈ Region.ready .any ops listed := ready_of hk (by simp [Array.getD, hk', hl]) fun x hx => by
          have hx' := (hbf k (by omega)).2 x hx
          have := ih x hx' (by omega)
          rw [Array.getD_eq_getD_getElem?, this]; rfl
        rw [hr] at hm
        cases hm
  have hall : ∀ (listed : Array Bool), listed.size = ops.size → (∀ k, k < ops.size → listed[k]? = some true) → (fun j => listed[j]? = some true) = fun j => j < p.ops.length := by
    intro listed hsz h
    funext j
    refine propext ⟨fun hj => ?_, fun hj => h j (by omega)⟩
    rcases Nat.lt_or_ge j listed.size with h1 | h1
    · omega
    · simp [Array.getElem?_eq_none h1] at hj
  intro fuel
  induction fuel with
  | zero =>
    intro listed hsz hop _ a w β hs
    have hfull : ∀ k, k < ops.size → listed[k]? = some true := fun k hk => open_zero hop k (by omega)
    refine ⟨?_, hQ a w β (by rw [← hall listed hsz hfull]; exact hs)⟩
    cases hr : Region.ready .any ops listed with
    | nil => rfl
    | cons x xs =>
      have hx := ready_spec (ops := ops) (listed := listed) (i := x) (by rw [hr]; simp)
      have := hfull x hx.1
      have h2 := hx.2.1
      rw [Array.getD_eq_getD_getElem?, this] at h2
      simp at h2
  | succ fuel ih =>
    intro listed hsz hop hdown a w β hs
    refine ⟨fun hr => hQ a w β (by rw [← hall listed hsz (hdone listed hsz hr)]; exact hs), fun i hi => ?_⟩
    obtain ⟨hi1, hi2, hi3⟩ := ready_spec hi
    have hil : listed[i]? = some false := by
      have : i < listed.size := by omega
      simp [Array.getD, this] at hi2
      simp [Array.getElem?_eq_getElem this, hi2]
    have hi3' : ∀ x ∈ direct ops i, listed[x]? = some true := fun x hx => by
      have := hi3 x hx
      rw [Array.getD_eq_getD_getElem?] at this
      cases h : listed[x]? with
      | none => simp [h] at this
      | some b => simp [h] at this; rw [this]
    have ho : ops[i]? = some ops[i] := Array.getElem?_eq_getElem hi1
    obtain ⟨hd, hg⟩ := hops.get i ops[i] (by simp)
    rw [Nat.zero_add] at hd hg
    unfold wpOp
    simp only [ho]
    refine Plan.step (P := P) (ops := ops) (listed := fun j => listed[j]? = some true) hn hc (by omega) (by simp [hil]) (fun j hj => ?_) (fun j k hk hj => hdown k hk j hj) (fun j hj => ?_) hd hg hs _ _ fun a' w' β' h' => ?_
    · rcases (hbf i (by omega)).1 j hj with h | ⟨e, he, h⟩
      · exact hi3' j h
      · exact hdown e (hi3' e he) j h
    · rcases Nat.lt_or_ge j listed.size with h1 | h1
      · omega
      · simp [Array.getElem?_eq_none h1] at hj
    · have hset : ∀ j, (listed.setIfInBounds i true)[j]? = some true ↔ listed[j]? = some true ∨ j = i := fun j => by
        by_cases hji : i = j
        · subst hji
          have : i < listed.size := by omega
          simp [this]
        · rw [Array.getElem?_setIfInBounds_ne hji]
          exact ⟨.inl, fun h => h.resolve_right (fun e => hji e.symm)⟩
      refine ih (listed.setIfInBounds i true) (by simpa using hsz) (by have := open_set hil; omega) (fun k hk j hj => ?_) a' w' β' ?_
      · rcases (hset k).1 hk with h | h
        · exact (hset j).2 (.inl (hdown k h j hj))
        · subst h
          refine (hset j).2 (.inl ?_)
          rcases (hbf k (by omega)).1 j hj with h | ⟨e, he, h⟩
          · exact hi3' j h
          · exact hdown e (hi3' e he) j h
      · have e : (fun j => (listed.setIfInBounds i true)[j]? = some true) = fun j => listed[j]? = some true ∨ j = i := by funext j; exact propext (hset j)
        rw [e]; exact h'

/-- A region that draws its order. -/
theorem region_any {id : Nat} {a : Act} {w : World} (p : Plan) (hm : P.follows .mixedOrders = true) (hn : p.n = c.n) (hc : p.check = true) (hany : p.checkAny ops = true) (hlen : p.ops.length = ops.size) (hops : p.Ok P c.G ops ops.toList 0)
    (hs : Sat c (p.E fun _ => undef) (p.alive fun _ => False) a w)
    (hQ : ∀ a w β, Sat c (p.E β) (p.alive fun k => k < p.ops.length) a w → Q .normal a w) : (Code.region id ops true).wp P Q a w := by
  refine wp_region_any hm ?_
  have hnone : ∀ j, ¬ (Array.replicate ops.size false)[j]? = some true := fun j h => by
    rw [Array.getElem?_replicate] at h
    split at h <;> simp at h
  refine wpAny_plan hn hc hany hlen hops hQ ops.size (Array.replicate ops.size false) (by simp) (by simp [open_]) (fun k hk => absurd hk (hnone k)) a _ (fun _ => undef) ?_
  have e : (fun j : Nat => (Array.replicate ops.size false)[j]? = some true) = fun _ => False := by funext j; exact propext ⟨hnone j, False.elim⟩
  rw [e]
  exact Sat.drew hs
end region

/-- A state told by a list. -/
def SatL (c : Cx) (l : List Ent) (a : Act) (w : World) : Prop := Sat c (nthD .none l) (fun i => i < l.length) a w

/-- Into a region: the state's entries are the plan's first ones. -/
theorem SatL.into {c : Cx} {p : Plan} {l : List Ent} {a : Act} {w : World} (h : SatL c l a w) (β : Nat → Value) (hown : ∀ r, r < p.ents.length → p.owner r = none → r < l.length)
    (hE : ∀ r, r < l.length → p.E β r = nthD .none l r) : Sat c (p.E β) (p.alive fun _ => False) a w := by
  have hr : ∀ i, p.alive (fun _ => False) i → i < l.length := fun i hi => hown i hi.1 (by
    cases ho : p.owner i with
    | none => rfl
    | some j => exact (hi.2.1 j ho).elim)
  exact Sat.pick h id (fun i hi => hr i hi) (fun i hi => hE i (hr i hi)) (fun i j _ _ hne => hne)

/-- Out of a region: the entries that are kept. -/
theorem Sat.keep {c : Cx} {p : Plan} {β : Nat → Value} {a : Act} {w : World} (h : Sat c (p.E β) (p.alive fun k => k < p.ops.length) a w) (hc : p.check = true) (ks : List Nat) (hd : distinct ks = true)
    (hk : (ks.all fun r => decide (r < p.ents.length) && (List.range p.ops.length).all fun k => !(p.op k).cons.contains r) = true) : SatL c (ks.map (p.E β)) a w := by
  have hnd := distinct_nodup hd
  refine Sat.pick h (fun i => nthD 0 ks i) (fun i hi => ?_) (fun i hi => ?_) (fun i j hi hj hne e => ?_)
  · have hi : i < ks.length := by simpa using hi
    have hm : nthD 0 ks i ∈ ks := by rw [nthD_eq]; simp [List.getD, List.getElem?_eq_getElem hi]
    have h1 := (List.all_eq_true.1 hk) _ hm
    simp only [Bool.and_eq_true, decide_eq_true_eq, List.all_eq_true, List.mem_range] at h1
    refine ⟨h1.1, fun j hj => (Plan.owner_of_check hc h1.1).2 j hj, fun k hk' hm' => ?_⟩
    have := h1.2 k hk'
    simp at this
    exact this hm'
  · have hi : i < ks.length := by simpa using hi
    rw [nthD_eq, nthD_eq]
    simp [List.getD, List.getElem?_eq_getElem hi]
  · have hi : i < ks.length := by simpa using hi
    have hj : j < ks.length := by simpa using hj
    rw [nthD_eq, nthD_eq] at e
    simp only [List.getD, List.getElem?_eq_getElem hi, List.getElem?_eq_getElem hj, Option.getD_some] at e
    exact hne ((List.getElem_inj hnd).1 e)

end Go.Proofs.YtklikgigjdgjaaaGreatDoorRRR
