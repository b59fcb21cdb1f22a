/- Regions, in one word. -/
import Derived.Test.YtklikgigjdgjaaaGreatDoorRRRA10
namespace Go.Proofs.YtklikgigjdgjaaaGreatDoorRRR
open Go Go.RowKit

def mkPlan (n : Nat) (l : List Ent) (gs : List GE) (own : List Nat) (ops : List OpRef) : Plan :=
  ⟨n, l.map .base ++ gs, l.map (fun _ => none) ++ own.map some, ops⟩

def regCheck (p : Plan) (ops : Array Oper) (draw : Bool) (gl : Nat) (ol : Nat) (ks : List Nat) : Bool :=
  p.check && (if draw then p.checkAny ops else p.checkSeq) && decide (p.ops.length = ops.size) && decide (gl = ol) && distinct ks &&
    (ks.all fun r => decide (r < p.ents.length) && (List.range p.ops.length).all fun k => !(p.op k).cons.contains r)

/-- A region: its plan, what of its entries is kept. -/
theorem region_do {P : Program} {c : Cx} {id n : Nat} {ops : Array Oper} {draw : Bool} {Q : Exit → Act → World → Prop} {a : Act} {w : World} {l : List Ent} (gs : List GE) (own : List Nat) (refs : List OpRef) (ks : List Nat) {G : FP} (hm : P.follows .mixedOrders = true) (hn : c.n = n) (hG : c.G = G)
    (h : SatL c l a w) (hc : regCheck (mkPlan n l gs own refs) ops draw gs.length own.length ks = true) (hops : (mkPlan n l gs own refs).Ok P G ops ops.toList 0)
    (hQ : ∀ (β : Nat → Value) (a : Act) (w : World), SatL c (ks.map ((mkPlan n l gs own refs).E β)) a w → Q .normal a w) : (Code.region id ops draw).wp P Q a w := by
  subst hG
  simp only [regCheck, Bool.and_eq_true, decide_eq_true_eq] at hc
  obtain ⟨⟨⟨⟨⟨hc1, hc2⟩, hc3⟩, hc4⟩, hc5⟩, hc6⟩ := hc
  have hs : Sat c ((mkPlan n l gs own refs).E fun _ => undef) ((mkPlan n l gs own refs).alive fun _ => False) a w := by
    refine h.into _ (fun r hr ho => ?_) (fun r hr => ?_)
    · rcases Nat.lt_or_ge r l.length with q | q
      · exact q
      · exfalso
        simp only [Plan.owner, mkPlan] at ho
        rw [nthD_append] at ho
        simp only [List.length_map, if_neg (by omega : ¬ r < l.length)] at ho
        have hr' : r - l.length < own.length := by
          simp [mkPlan] at hr
          omega
        rw [nthD_map 0 none some own _ hr'] at ho
        cases ho
    · simp only [Plan.E, mkPlan]
      rw [nthD_append, if_pos (by simpa using hr), nthD_map .none _ _ _ _ hr]
      rfl
  have hQ' : ∀ a w β, Sat c ((mkPlan n l gs own refs).E β) ((mkPlan n l gs own refs).alive fun k => k < (mkPlan n l gs own refs).ops.length) a w → Q .normal a w :=
    fun a w β hk => hQ β a w (Sat.keep hk hc1 ks hc5 hc6)
  cases draw with
  | true => exact region_any _ hm hn.symm hc1 (by simpa using hc2) hc3 hops hs hQ'
  | false => exact region_seq _ hn.symm hc1 (by simpa using hc2) hc3 hops hs hQ'

/-- Nothing is known throughout. -/
def trueFP : FP := ⟨fun _ => True, fun _ h => h⟩

end Go.Proofs.YtklikgigjdgjaaaGreatDoorRRR
