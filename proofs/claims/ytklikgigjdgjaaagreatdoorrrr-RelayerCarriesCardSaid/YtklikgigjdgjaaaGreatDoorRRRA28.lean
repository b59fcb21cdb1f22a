/- Regions told by their operations alone: the plan, and the entries kept, are worked out. -/
import Derived.Test.YtklikgigjdgjaaaGreatDoorRRRA27
namespace Go.Proofs.YtklikgigjdgjaaaGreatDoorRRR
open Go Go.RowKit Go.Proofs

/-- An operation's part of a plan. -/
structure OpT where
  needs : List Nat
  cons : List Nat
  gives : List GE
def eN (E : List GE) (β : Nat → Value) (r : Nat) : Ent := (nthD (.base .none) E r).at β

/-- A region's operations, one behind the other, each among the entries known so far. -/
inductive Acc (P : Program) (G : FP) (ops : Array Oper) : List GE → Nat → List Oper → List OpT → Prop
  | nil {E : List GE} {i : Nat} : Acc P G ops E i [] []
  | cons {E : List GE} {i : Nat} {o : Oper} {l : List Oper} {ts : List OpT} (t : OpT)
    (h : ∀ β : Nat → Value, GOk P G ops o (t.needs.map (eN E β)) (t.cons.map (eN E β)) (fun v => t.gives.map fun g => g.at fun k => if k = i then v else β k))
    (hr : Acc P G ops (E ++ t.gives) (i + 1) l ts) : Acc P G ops E i (o :: l) (t :: ts)

def addAll (l m : List Nat) : List Nat := m.foldl (fun acc x => if acc.contains x then acc else x :: acc) l
def bfStep (ops : Array Oper) (k : Nat) (b : List (List Nat)) : List (List Nat) := b ++ [(direct ops k).foldl (fun acc j => addAll (addAll acc [j]) (nthD [] b j)) []]
def bfAny (ops : Array Oper) : Nat → List (List Nat)
  | 0 => []
  | k + 1 => bfStep ops k (bfAny ops k)
def bfSeq : Nat → List (List Nat)
  | 0 => []
  | k + 1 => bfSeq k ++ [List.range k]
def bfs (ops : Array Oper) : Bool → List (List Nat)
  | true => bfAny ops ops.size
  | false => bfSeq ops.size
def mkOps : Nat → List OpT → List Oper → List (List Nat) → List OpRef
  | s, t :: ts, o :: os, b :: bs => ⟨t.needs, t.cons, List.range' s t.gives.length, b, o.dst⟩ :: mkOps (s + t.gives.length) ts os bs
  | _, _, _, _ => []
def mkOwn : Nat → List OpT → List Nat
  | _, [] => []
  | i, t :: ts => t.gives.map (fun _ => i) ++ mkOwn (i + 1) ts
def gvs : List OpT → List GE
  | [] => []
  | t :: ts => t.gives ++ gvs ts
def inR : Nat → List OpT → Bool
  | _, [] => true
  | s, t :: ts => (t.needs ++ t.cons).all (fun r => decide (r < s)) && inR (s + t.gives.length) ts

theorem Acc.ok {P : Program} {G : FP} {ops : Array Oper} (p : Plan) : ∀ {l : List Oper} {E : List GE} {i : Nat} {ts : List OpT} {bs : List (List Nat)}, Acc P G ops E i l ts → bs.length = l.length → inR E.length ts = true →
    p.ents = E ++ gvs ts → (∀ j, p.op (i + j) = nthD OpRef.none (mkOps E.length ts l bs) j) → p.Ok P G ops l i
  | [], _, _, _, _, _, _, _, _, _ => trivial
  | o :: l, E, i, ts, bs, h, hb, hr, he, ho => by
    cases h with
    | @cons _ _ _ _ ts t h1 h2 =>
      cases bs with
      | nil => simp at hb
      | cons b bs =>
        simp only [inR, Bool.and_eq_true, List.all_eq_true, decide_eq_true_eq, List.mem_append] at hr
        have h0 := ho 0
        simp only [Nat.add_zero, mkOps, nthD] at h0
        have hE : ∀ β r, r < E.length → p.E β r = eN E β r := fun β r hlt => by
          simp only [Plan.E, eN, he]
          rw [nthD_append, if_pos hlt]
        have hg : ∀ β, (List.range' E.length t.gives.length).map (p.E β) = t.gives.map fun g => g.at β := fun β => by
          refine List.ext_getElem (by simp) fun k hk1 hk2 => ?_
          simp only [List.length_map, List.length_range'] at hk1
          simp only [List.getElem_map, List.getElem_range', Nat.one_mul, Plan.E, he, gvs]
          rw [nthD_append, if_neg (by omega), nthD_append, if_pos (by omega), nthD_eq]
          simp [List.getD, show E.length + k - E.length = k by omega, hk1]
        refine ⟨⟨by rw [h0], fun β => ?_⟩, ?_⟩
        · rw [h0]
          have e1 : t.needs.map (p.E β) = t.needs.map (eN E β) := List.map_congr_left fun r hm => hE β r (hr.1 r (.inl hm))
          have e2 : t.cons.map (p.E β) = t.cons.map (eN E β) := List.map_congr_left fun r hm => hE β r (hr.1 r (.inr hm))
          simp only [e1, e2, hg]
          exact h1 β
        · refine Acc.ok p h2 (by simpa using hb) (by simpa using hr.2) (by rw [he, gvs, List.append_assoc]) fun j => ?_
          have := ho (j + 1)
          simp only [mkOps, nthD] at this
          rw [show i + 1 + j = i + (j + 1) by omega, this]
          simp

/-- The same, told from the end: numbers below 500 are the state's entries, 500 is the newest of the region's own. -/
def lk (l : List Ent) (N : List GE) (β : Nat → Value) (r : Nat) : Ent := bif Nat.ble 500 r then (nthD (.base .none) N (r - 500)).at β else nthD .none l r
def ab (m c r : Nat) : Nat := bif Nat.ble 500 r then m + (c - 1 - (r - 500)) else r
def okR (m c r : Nat) : Bool := bif Nat.ble 500 r then decide (r - 500 < c) else decide (r < m)
theorem lk_eq {l : List Ent} {N : List GE} {r : Nat} (h : okR l.length N.length r = true) (β : Nat → Value) : lk l N β r = eN (l.map .base ++ N.reverse) β (ab l.length N.length r) ∧ ab l.length N.length r < l.length + N.length := by
  unfold lk eN ab
  unfold okR at h
  cases hb : Nat.ble 500 r with
  | false =>
    simp only [hb, cond_false, decide_eq_true_eq] at h
    simp only [cond_false]
    rw [nthD_append, if_pos (by simpa using h), nthD_map .none _ _ _ _ h]
    exact ⟨rfl, by omega⟩
  | true =>
    simp only [hb, cond_true, decide_eq_true_eq] at h
    simp only [cond_true]
    rw [nthD_append, if_neg (by simp)]
    refine ⟨?_, by omega⟩
    rw [nthD_eq, nthD_eq]
    simp only [List.getD, List.length_map, show l.length + (N.length - 1 - (r - 500)) - l.length = N.length - 1 - (r - 500) by omega]
    rw [List.getElem?_reverse (by omega), show N.length - 1 - (N.length - 1 - (r - 500)) = r - 500 by omega]
def revOn : List GE → List GE → List GE
  | [], N => N
  | g :: gs, N => revOn gs (g :: N)
theorem revOn_eq : ∀ (gs N : List GE), revOn gs N = gs.reverse ++ N
  | [], _ => rfl
  | g :: gs, N => by simp [revOn, revOn_eq gs]
inductive Ac (P : Program) (G : FP) (ops : Array Oper) (l : List Ent) : List GE → Nat → List Oper → List OpT → List GE → Prop
  | nil {N : List GE} {i : Nat} : Ac P G ops l N i [] [] N
  | cons {N Nf : List GE} {i : Nat} {o : Oper} {os : List Oper} {ts : List OpT} (t : OpT)
    (h : ∀ β : Nat → Value, GOk P G ops o (t.needs.map (lk l N β)) (t.cons.map (lk l N β)) (fun v => t.gives.map fun g => g.at fun k => if k = i then v else β k))
    (hr : Ac P G ops l (revOn t.gives N) (i + 1) os ts Nf) : Ac P G ops l N i (o :: os) (t :: ts) Nf
def cv (m : Nat) : Nat → List OpT → List OpT
  | _, [] => []
  | c, t :: ts => ⟨t.needs.map (ab m c), t.cons.map (ab m c), t.gives⟩ :: cv m (c + t.gives.length) ts
def inQ (m : Nat) : Nat → List OpT → Bool
  | _, [] => true
  | c, t :: ts => (t.needs ++ t.cons).all (okR m c) && inQ m (c + t.gives.length) ts
theorem cv_gvs (m : Nat) : ∀ (ts : List OpT) (c : Nat), gvs (cv m c ts) = gvs ts
  | [], _ => rfl
  | t :: ts, c => by simp [cv, gvs, cv_gvs m ts]
theorem Ac.acc {P : Program} {G : FP} {ops : Array Oper} {l : List Ent} : ∀ {os : List Oper} {N Nf : List GE} {i : Nat} {ts : List OpT}, Ac P G ops l N i os ts Nf → inQ l.length N.length ts = true →
    Acc P G ops (l.map .base ++ N.reverse) i os (cv l.length N.length ts) ∧ inR (l.length + N.length) (cv l.length N.length ts) = true ∧ Nf = (gvs ts).reverse ++ N
  | [], _, _, _, _, h, _ => by cases h; exact ⟨.nil, rfl, rfl⟩
  | o :: os, N, Nf, i, _, h, hq => by
    cases h with
    | @cons _ _ _ _ _ ts t h1 h2 =>
      simp only [inQ, Bool.and_eq_true, List.all_eq_true, List.mem_append] at hq
      have hlen : (revOn t.gives N).length = N.length + t.gives.length := by rw [revOn_eq]; simp; omega
      obtain ⟨a1, a2, a3⟩ := Ac.acc h2 (by rw [hlen]; exact hq.2)
      rw [hlen] at a1 a2
      refine ⟨?_, ?_, ?_⟩
      · refine Acc.cons _ (fun β => ?_) (by rw [List.append_assoc, show N.reverse ++ t.gives = (revOn t.gives N).reverse by rw [revOn_eq]; simp]; exact a1)
        have e1 : (t.needs.map (ab l.length N.length)).map (eN (l.map .base ++ N.reverse) β) = t.needs.map (lk l N β) := by
          rw [List.map_map]; exact List.map_congr_left fun r hr => (lk_eq (hq.1 r (.inl hr)) β).1.symm
        have e2 : (t.cons.map (ab l.length N.length)).map (eN (l.map .base ++ N.reverse) β) = t.cons.map (lk l N β) := by
          rw [List.map_map]; exact List.map_congr_left fun r hr => (lk_eq (hq.1 r (.inr hr)) β).1.symm
        simp only [e1, e2]
        exact h1 β
      · simp only [cv, inR, Bool.and_eq_true, List.all_eq_true, decide_eq_true_eq, List.mem_append, List.mem_map]
        refine ⟨?_, by rw [← Nat.add_assoc] at a2; exact a2⟩
        rintro r (⟨q, hm, rfl⟩ | ⟨q, hm, rfl⟩)
        · exact (lk_eq (hq.1 q (.inl hm)) (fun _ => undef)).2
        · exact (lk_eq (hq.1 q (.inr hm)) (fun _ => undef)).2
      · rw [a3, revOn_eq, gvs]; simp

/-- Which entries are kept, written out. -/
def lkG (l : List Ent) (N : List GE) (r : Nat) : GE := bif Nat.ble 500 r then nthD (.base .none) N (r - 500) else .base (nthD .none l r)
theorem lkG_at (l : List Ent) (N : List GE) (r : Nat) (β : Nat → Value) : (lkG l N r).at β = lk l N β r := by
  unfold lkG lk; cases Nat.ble 500 r <;> rfl
inductive SelG (l : List Ent) (N : List GE) : List Nat → ((Nat → Value) → List Ent) → Prop
  | nil : SelG l N [] (fun _ => [])
  | cons {k : Nat} {ks : List Nat} {g : GE} {L : (Nat → Value) → List Ent} (h : lkG l N k = g) (hr : SelG l N ks L) : SelG l N (k :: ks) (fun β => g.at β :: L β)
section
variable {l : List Ent} {N : List GE} {k : Nat} {ks : List Nat} {L : (Nat → Value) → List Ent} {d i j m : Nat} {v : Value}
theorem SelG.bs {V : VP} (h : lkG l N k = .base (.slot d V)) (hr : SelG l N ks L) : SelG l N (k :: ks) (fun β => .slot d V :: L β) := SelG.cons h hr
theorem SelG.br {R : RP} (h : lkG l N k = .base (.res R)) (hr : SelG l N ks L) : SelG l N (k :: ks) (fun β => .res R :: L β) := SelG.cons h hr
theorem SelG.bf {V : VP} (h : lkG l N k = .base (.fact V v)) (hr : SelG l N ks L) : SelG l N (k :: ks) (fun β => .fact V v :: L β) := SelG.cons h hr
theorem SelG.bn (h : lkG l N k = .base .none) (hr : SelG l N ks L) : SelG l N (k :: ks) (fun β => .none :: L β) := SelG.cons h hr
theorem SelG.s {V : Value → Value → VP} (h : lkG l N k = .slot d i j V) (hr : SelG l N ks L) : SelG l N (k :: ks) (fun β => .slot d (V (β i) (β j)) :: L β) := SelG.cons h hr
theorem SelG.r {R : Value → Value → RP} (h : lkG l N k = .res i j R) (hr : SelG l N ks L) : SelG l N (k :: ks) (fun β => .res (R (β i) (β j)) :: L β) := SelG.cons h hr
theorem SelG.s3 {V : Value → Value → Value → VP} (h : lkG l N k = .slot3 d i j m V) (hr : SelG l N ks L) : SelG l N (k :: ks) (fun β => .slot d (V (β i) (β j) (β m)) :: L β) := SelG.cons h hr
theorem SelG.r3 {R : Value → Value → Value → RP} (h : lkG l N k = .res3 i j m R) (hr : SelG l N ks L) : SelG l N (k :: ks) (fun β => .res (R (β i) (β j) (β m)) :: L β) := SelG.cons h hr
end
theorem SelG.eq {l : List Ent} {N : List GE} : ∀ {ks : List Nat} {L : (Nat → Value) → List Ent}, SelG l N ks L → ∀ β, L β = ks.map (lk l N β)
  | [], _, h, β => by cases h; rfl
  | k :: ks, _, h, β => by
    cases h with
    | cons h hr => simp only [List.map_cons, SelG.eq hr β, ← lkG_at, h]
inductive SelE (l : List Ent) : List Nat → List Ent → Prop
  | nil : SelE l [] []
  | cons {k : Nat} {ks : List Nat} {e : Ent} {L : List Ent} (h : nthD .none l k = e) (hr : SelE l ks L) : SelE l (k :: ks) (e :: L)
theorem SelE.s {l : List Ent} {k : Nat} {ks : List Nat} {d : Nat} {V : VP} {L : List Ent} (h : nthD .none l k = .slot d V) (hr : SelE l ks L) : SelE l (k :: ks) (.slot d V :: L) := SelE.cons h hr
theorem SelE.r {l : List Ent} {k : Nat} {ks : List Nat} {R : RP} {L : List Ent} (h : nthD .none l k = .res R) (hr : SelE l ks L) : SelE l (k :: ks) (.res R :: L) := SelE.cons h hr
theorem SelE.f {l : List Ent} {k : Nat} {ks : List Nat} {V : VP} {v : Value} {L : List Ent} (h : nthD .none l k = .fact V v) (hr : SelE l ks L) : SelE l (k :: ks) (.fact V v :: L) := SelE.cons h hr
theorem SelE.n {l : List Ent} {k : Nat} {ks : List Nat} {L : List Ent} (h : nthD .none l k = .none) (hr : SelE l ks L) : SelE l (k :: ks) (.none :: L) := SelE.cons h hr
theorem SelE.eq {l : List Ent} : ∀ {ks : List Nat} {L : List Ent}, SelE l ks L → L = ks.map (nthD .none l)
  | [], _, h => by cases h; rfl
  | k :: ks, _, h => by
    cases h with
    | cons h hr => simp only [List.map_cons, ← SelE.eq hr, h]

def regC (n : Nat) (l : List Ent) (ts : List OpT) (ops : Array Oper) (draw : Bool) (ks : List Nat) : Bool :=
  inQ l.length 0 ts && decide ((bfs ops draw).length = ops.toList.length) && ks.all (okR l.length (gvs ts).length) &&
    regCheck (mkPlan n l (gvs (cv l.length 0 ts)) (mkOwn 0 (cv l.length 0 ts)) (mkOps l.length (cv l.length 0 ts) ops.toList (bfs ops draw))) ops draw (gvs (cv l.length 0 ts)).length (mkOwn 0 (cv l.length 0 ts)).length (ks.map (ab l.length (gvs ts).length))

/-- A region. -/
theorem reg {P : Program} {c : Cx} {id n : Nat} {ops : Array Oper} {draw : Bool} {Q : Exit → Act → World → Prop} {a : Act} {w : World} {l : List Ent} {G : FP} {ts : List OpT} {Nf : List GE} {L : (Nat → Value) → List Ent} (hm : P.follows .mixedOrders = true) (hn : c.n = n) (hG : c.G = G)
    (h : SatL c l a w) (ks : List Nat) (hA : Ac P G ops l [] 0 ops.toList ts Nf)
    (hQ : ∀ (β : Nat → Value) (a : Act) (w : World), SatL c (L β) a w → Q .normal a w)
    (hL : SelG l Nf ks L := by repeat first | exact SelG.nil | (apply SelG.bs; exact rfl) | (apply SelG.br; exact rfl) | (apply SelG.s; exact rfl) | (apply SelG.r; exact rfl) | (apply SelG.bf; exact rfl) | (apply SelG.bn; exact rfl) | (apply SelG.s3; exact rfl) | (apply SelG.r3; exact rfl))
    (hc : regC n l ts ops draw ks = true := by kernel_rfl) : (Code.region id ops draw).wp P Q a w := by
  simp only [regC, Bool.and_eq_true, decide_eq_true_eq] at hc
  obtain ⟨⟨⟨c1, c2⟩, c3⟩, c4⟩ := hc
  obtain ⟨a1, a2, a3⟩ := Ac.acc hA (by simpa using c1)
  simp only [List.length_nil, List.reverse_nil, List.append_nil, Nat.add_zero] at a1 a2 a3
  refine region_do (gvs (cv l.length 0 ts)) _ _ _ hm hn hG h c4 (Acc.ok _ a1 c2 (by simpa using a2) rfl fun j => ?_) fun β a w hs => hQ β a w ?_
  · simp [Plan.op, mkPlan]
  · rw [hL.eq β, a3]
    have e : ks.map (lk l (gvs ts).reverse β) = (ks.map (ab l.length (gvs ts).length)).map ((mkPlan n l (gvs (cv l.length 0 ts)) (mkOwn 0 (cv l.length 0 ts)) (mkOps l.length (cv l.length 0 ts) ops.toList (bfs ops draw))).E β) := by
      rw [List.map_map]
      refine List.map_congr_left fun r hr => ?_
      have := (lk_eq (l := l) (N := (gvs ts).reverse) (r := r) (by simpa using (List.all_eq_true.1 c3) r hr) β).1
      rw [this]
      simp [eN, Plan.E, mkPlan, cv_gvs]
    rw [e]; exact hs
/-- A region at the head of a sequence. -/
theorem regS {P : Program} {c : Cx} {id n : Nat} {ops : Array Oper} {draw : Bool} {Q : Exit → Act → World → Prop} {y : Code} {a : Act} {w : World} {l : List Ent} {G : FP} {ts : List OpT} {Nf : List GE} {L : (Nat → Value) → List Ent} (hm : P.follows .mixedOrders = true) (hn : c.n = n) (hG : c.G = G)
    (h : SatL c l a w) (ks : List Nat) (hA : Ac P G ops l [] 0 ops.toList ts Nf)
    (hQ : ∀ (β : Nat → Value) (a : Act) (w : World), SatL c (L β) a w → y.wp P Q a w)
    (hL : SelG l Nf ks L := by repeat first | exact SelG.nil | (apply SelG.bs; exact rfl) | (apply SelG.br; exact rfl) | (apply SelG.s; exact rfl) | (apply SelG.r; exact rfl) | (apply SelG.bf; exact rfl) | (apply SelG.bn; exact rfl) | (apply SelG.s3; exact rfl) | (apply SelG.r3; exact rfl))
    (hc : regC n l ts ops draw ks = true := by kernel_rfl) : (Code.seq (Code.region id ops draw) y).wp P Q a w :=
  wp_seq (reg hm hn hG h ks hA hQ hL hc)

section
variable {P : Program} {G : FP} {ops : Array Oper} {l : List Ent} {N Nf : List GE} {i : Nat} {o : Oper} {os : List Oper} {ts : List OpT} {dst : Option Nat} {op : Op} {ty : TypeId} {pos : String} {af : Array Edge}
/-- Any operation. -/
theorem og (needs cons : List Nat) (gives : List GE) (h : ∀ {β : Nat → Value}, GOk P G ops o (needs.map (lk l N β)) (cons.map (lk l N β)) (fun v => gives.map fun g => g.at fun k => if k = i then v else β k))
    (hr : Ac P G ops l (revOn gives N) (i + 1) os ts Nf) : Ac P G ops l N i (o :: os) (⟨needs, cons, gives⟩ :: ts) Nf := Ac.cons ⟨needs, cons, gives⟩ (fun _ => h) hr
/-- An operation whose entries name no new value. -/
theorem oe (needs cons : List Nat) {Gs : List Ent} (h : ∀ {β : Nat → Value}, GOk P G ops o (needs.map (lk l N β)) (cons.map (lk l N β)) (fun _ => Gs))
    (hr : Ac P G ops l (revOn (Gs.map .base) N) (i + 1) os ts Nf) : Ac P G ops l N i (o :: os) (⟨needs, cons, Gs.map .base⟩ :: ts) Nf :=
  Ac.cons ⟨needs, cons, Gs.map .base⟩ (fun β => by
    have e : (fun v : Value => (Gs.map GE.base).map fun g => g.at fun k => if k = i then v else β k) = fun _ => Gs := by
      funext v
      rw [List.map_map]
      exact (List.map_congr_left fun x _ => rfl).trans (List.map_id _)
    simp only [e]
    exact h) hr
/-- A value. -/
theorem ov (needs : List Nat) {d : Nat} {V : VP} (h : ∀ {β : Nat → Value}, OpOk P G ⟨dst, op, ty, pos, af, none⟩ (needs.map (lk l N β)) [] (fun _ => [.slot d V]))
    (hr : Ac P G ops l (.base (.slot d V) :: N) (i + 1) os ts Nf) : Ac P G ops l N i (⟨dst, op, ty, pos, af, none⟩ :: os) (⟨needs, [], [.base (.slot d V)]⟩ :: ts) Nf :=
  oe needs [] (Gs := [.slot d V]) (GOk.plain h rfl) hr
/-- A value in the place of an old one. -/
theorem od (needs : List Nat) (k : Nat) {d : Nat} {V : VP} (h : ∀ {β : Nat → Value}, OpOk P G ⟨dst, op, ty, pos, af, none⟩ (needs.map (lk l N β)) [] (fun _ => [.slot d V]))
    (hr : Ac P G ops l (.base (.slot d V) :: N) (i + 1) os ts Nf) : Ac P G ops l N i (⟨dst, op, ty, pos, af, none⟩ :: os) (⟨needs, [k], [.base (.slot d V)]⟩ :: ts) Nf :=
  oe needs [k] (Gs := [.slot d V]) (GOk.drop _ (GOk.plain h rfl)) hr
/-- A resource changed. -/
theorem ou (needs : List Nat) (k : Nat) {R : RP} (h : ∀ {β : Nat → Value}, OpOk P G ⟨dst, op, ty, pos, af, none⟩ (needs.map (lk l N β)) [lk l N β k] (fun _ => [.res R]))
    (hr : Ac P G ops l (.base (.res R) :: N) (i + 1) os ts Nf) : Ac P G ops l N i (⟨dst, op, ty, pos, af, none⟩ :: os) (⟨needs, [k], [.base (.res R)]⟩ :: ts) Nf :=
  oe needs [k] (Gs := [.res R]) (GOk.plain h rfl) hr
/-- A new block. -/
theorem ob (needs : List Nat) {d : Nat} {T : TypeId} {L : List Ck} (h : ∀ {β : Nat → Value}, OpOk P G ⟨dst, op, ty, pos, af, none⟩ (needs.map (lk l N β)) [] (fun v => [.slot d (lpVP v 0), .res (lb v T L)]))
    (hr : Ac P G ops l (.res i 100000 (fun v _ => lb v T L) :: .slot d i 100000 (fun v _ => lpVP v 0) :: N) (i + 1) os ts Nf) :
    Ac P G ops l N i (⟨dst, op, ty, pos, af, none⟩ :: os) (⟨needs, [], [.slot d i 100000 (fun v _ => lpVP v 0), .res i 100000 (fun v _ => lb v T L)]⟩ :: ts) Nf :=
  og needs [] _ (GOk.plain (by simpa [GE.at] using h) rfl) hr
/-- A new block, whose slot held something. -/
theorem obd (needs : List Nat) (k : Nat) {d : Nat} {T : TypeId} {L : List Ck} (h : ∀ {β : Nat → Value}, OpOk P G ⟨dst, op, ty, pos, af, none⟩ (needs.map (lk l N β)) [] (fun v => [.slot d (lpVP v 0), .res (lb v T L)]))
    (hr : Ac P G ops l (.res i 100000 (fun v _ => lb v T L) :: .slot d i 100000 (fun v _ => lpVP v 0) :: N) (i + 1) os ts Nf) :
    Ac P G ops l N i (⟨dst, op, ty, pos, af, none⟩ :: os) (⟨needs, [k], [.slot d i 100000 (fun v _ => lpVP v 0), .res i 100000 (fun v _ => lb v T L)]⟩ :: ts) Nf :=
  og needs [k] _ (fun {β} => by simpa [GE.at] using GOk.drop (ops := ops) (lk l N β k) (GOk.plain (@h β) rfl)) hr
variable {d : Nat}
/-- A call that hands back a value, and objects as told. -/
theorem oc (needs cons : List Nat) {f : FuncId} {xs : List Operand} {tys : Array TypeId} {args : List VP} {pre post : List RP} {res : VP} (hcall : ∀ args w, (callFunc f args).run P w = .ok (.enter f args) w)
    (hc : CallOk P G f args pre (fun _ => post) res) (hx : ∀ {β : Nat → Value}, OpndsOk G (needs.map (lk l N β)) xs args) (hr : Ac P G ops l (revOn ((.slot d res :: post.map .res).map .base) N) (i + 1) os ts Nf)
    (hC : ∀ β, cons.map (lk l N β) = pre.map .res := by intro β; rfl) :
    Ac P G ops l N i (⟨some d, .call ⟨.value (.func f), xs.toArray, tys⟩, ty, pos, af, none⟩ :: os) (⟨needs, cons, (.slot d res :: post.map .res).map .base⟩ :: ts) Nf :=
  oe needs cons (fun {β} => GOk.plain (by rw [hC]; exact op_call hcall hc hx) rfl) hr
/-- The same, its slot held something. -/
theorem ocd (needs cons : List Nat) (k : Nat) {f : FuncId} {xs : List Operand} {tys : Array TypeId} {args : List VP} {pre post : List RP} {res : VP} (hcall : ∀ args w, (callFunc f args).run P w = .ok (.enter f args) w)
    (hc : CallOk P G f args pre (fun _ => post) res) (hx : ∀ {β : Nat → Value}, OpndsOk G (needs.map (lk l N β)) xs args) (hr : Ac P G ops l (revOn ((.slot d res :: post.map .res).map .base) N) (i + 1) os ts Nf)
    (hC : ∀ β, cons.map (lk l N β) = pre.map .res := by intro β; rfl) :
    Ac P G ops l N i (⟨some d, .call ⟨.value (.func f), xs.toArray, tys⟩, ty, pos, af, none⟩ :: os) (⟨needs, cons ++ [k], (.slot d res :: post.map .res).map .base⟩ :: ts) Nf :=
  oe needs (cons ++ [k]) (fun {β} => by rw [List.map_append, hC]; exact GOk.drop _ (GOk.plain (op_call hcall hc hx) rfl)) hr
end

section
variable {G : FP} {N : List Ent} {t : Nat} {V : VP} {e0 e1 e2 : Ent}
theorem q0 : OpndOk G (.slot t V :: N) (.tmp t) V := opt 0 rfl
theorem q1 : OpndOk G (e0 :: .slot t V :: N) (.tmp t) V := opt 1 rfl
theorem q2 : OpndOk G (e0 :: e1 :: .slot t V :: N) (.tmp t) V := opt 2 rfl
theorem q3 : OpndOk G (e0 :: e1 :: e2 :: .slot t V :: N) (.tmp t) V := opt 3 rfl
theorem qi {k : IntKind} {x : Int} (h : InR k x := by decide) : OpndOk G N (.const (.int k x)) (intVP k x) := opc (ic h)
theorem qb {b : Bool} : OpndOk G N (.const (.bool b)) (boolVP b) := opc (bc b)
end
/-- A load of a whole block. -/
theorem op_load_w {P : Program} {G : FP} {N : List Ent} {d : Nat} {ty : TypeId} {pos : String} {af : Array Edge} {gd : Option (Nat × Bool)} {T T0 : TypeId} {x : Operand} {p : Value} {n : Nat} {L : List Ck} (j : Nat) (ha : ∀ w, (isAgg T).run P w = .ok true w) (hs : ∀ w, (sizeOf T).run P w = .ok n w)
    (hx : OpndOk G N x (lpVP p 0)) (he : nthD .none N j = .res (lb p T0 L) := by rfl) (hn : lens L = n := by rfl) :
    OpOk P G ⟨some d, .load T x, ty, pos, af, gd⟩ N [] (fun _ => [.slot d (aggVP L)]) :=
  op_load_lb [] L [] j ha hs hx (by simpa using he) rfl hn
/-- A store of a whole block. -/
theorem op_store_w {P : Program} {G : FP} {N : List Ent} {ty : TypeId} {pos : String} {af : Array Edge} {gd : Option (Nat × Bool)} {T T0 : TypeId} {x y : Operand} {p : Value} {n : Nat} {V : VP} {L M : List Ck} (hs : ∀ w, (sizeOf T).run P w = .ok n w)
    (hx : OpndOk G N x (lpVP p 0)) (hy : OpndOk G N y V) (hc : Cells V M) (hm : lens L = n := by rfl) (hM : lens M = n := by rfl) :
    OpOk P G ⟨none, .store T x y, ty, pos, af, gd⟩ N [.res (lb p T0 L)] (fun _ => [.res (lb p T0 M)]) := by
  have := op_store_lb (P := P) (G := G) (N := N) (ty := ty) (pos := pos) (af := af) (gd := gd) (T0 := T0) (p := p) (k := 0) [] L [] M hs hx hy hc rfl hm hM
  simpa using this

/-- A test on a slot, the twin's with it. -/
theorem cnd {P : Program} {c : Cx} {l l1 l2 : List Ent} {a : Act} {w : World} {Q : Exit → Act → World → Prop} {t : Nat} {b : Bool} {x y : Code} {α : Type} {X Y : Option α} {r : Option α} (h : SatL c l a w) (hF : (if b = true then X else Y) = r) (i : Nat) (k1 k2 : List Nat)
    (ht : b = true → X = r → SatL c l1 a w → x.wp P Q a w) (hf : b = false → Y = r → SatL c l2 a w → y.wp P Q a w)
    (he : nthD .none l i = .slot t (boolVP b) := by rfl)
    (h1 : SelE l k1 l1 := by repeat first | exact SelE.nil | (apply SelE.s; exact rfl) | (apply SelE.r; exact rfl) | (apply SelE.f; exact rfl) | (apply SelE.n; exact rfl))
    (h2 : SelE l k2 l2 := by repeat first | exact SelE.nil | (apply SelE.s; exact rfl) | (apply SelE.r; exact rfl) | (apply SelE.f; exact rfl) | (apply SelE.n; exact rfl))
    (d1 : (distinct k1 && k1.all fun k => decide (k < l.length)) = true := by rfl) (d2 : (distinct k2 && k2.all fun k => decide (k < l.length)) = true := by rfl) :
    (Code.cond (.tmp t) x y).wp P Q a w :=
  cond_L h i he (fun hb => ht hb (tt_of hb hF) (by rw [h1.eq]; exact h.sub k1 d1)) (fun hb => hf hb (ff_of hb hF) (by rw [h2.eq]; exact h.sub k2 d2))
/-- Some of the entries, written out. -/
theorem SatL.sel {c : Cx} {l l1 : List Ent} {a : Act} {w : World} (h : SatL c l a w) (ks : List Nat)
    (h1 : SelE l ks l1 := by repeat first | exact SelE.nil | (apply SelE.s; exact rfl) | (apply SelE.r; exact rfl) | (apply SelE.f; exact rfl) | (apply SelE.n; exact rfl))
    (hk : (distinct ks && ks.all fun k => decide (k < l.length)) = true := by rfl) : SatL c l1 a w := by
  rw [h1.eq]; exact h.sub ks hk
theorem skS {P : Program} {Q : Exit → Act → World → Prop} {y : Code} {a : Act} {w : World} (h : y.wp P Q a w) : (Code.seq Code.skip y).wp P Q a w := wp_seq (wp_skip h)
end Go.Proofs.YtklikgigjdgjaaaGreatDoorRRR
