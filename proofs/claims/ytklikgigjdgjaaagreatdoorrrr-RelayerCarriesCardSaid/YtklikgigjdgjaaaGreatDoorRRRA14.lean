/- More glue. -/
import Derived.Test.YtklikgigjdgjaaaGreatDoorRRRA13
namespace Go.Proofs.YtklikgigjdgjaaaGreatDoorRRR
open Go Go.RowKit
theorem inBlock_at {id : Nat} {Q : Exit → Act → World → Prop} {a : Act} {w : World} (h : Q .normal a w) : Exit.inBlock id Q (.exit id) a w := by
  simp only [Exit.inBlock, if_true]; exact h
/-- What stands behind a piece of code, cut off at a state. -/
theorem wp_cut {P : Program} {x : Code} {Q : Exit → Act → World → Prop} {a : Act} {w : World} (J : Act → World → Prop) (hx : x.wp P (Exit.then J Q) a w) (hy : ∀ a w, J a w → Q .normal a w) : x.wp P Q a w :=
  wp_mono hx fun e a w q => by cases e <;> first | exact hy _ _ q | exact q
theorem lp_eqo {G : FP} {N : List Ent} {t : Nat} {p : Value} (i : Nat) (h : nthD .none N i = .slot t (lpVP p 0)) : OpndOk G N (.tmp t) (eqVP p) := by
  intro Φ a w f hG hN
  obtain ⟨b, h1, h2⟩ := opt (G := G) i h Φ a w f hG hN
  exact h2.trans h1.symm
theorem ptr_eqo {G : FP} {N : List Ent} {t : Nat} {p : Value} {nn : Bool} (i : Nat) (h : nthD .none N i = .slot t (ptrVP p nn)) : OpndOk G N (.tmp t) (eqVP p) := by
  intro Φ a w f hG hN
  exact (opt (G := G) i h Φ a w f hG hN).1
end Go.Proofs.YtklikgigjdgjaaaGreatDoorRRR
