/- Maps whose keys are numbers. -/
import Derived.Test.YtklikgigjdgjaaaGreatDoorRRRA35
namespace Go.Proofs.YtklikgigjdgjaaaGreatDoorRRR
open Go Go.RowKit Go.Proofs
set_option linter.unusedVariables false
set_option linter.unusedSimpArgs false
def intK (k : IntKind) (x : Int) : Value := .int k x
section keys
variable {P : Program} {kt : TypeId}
theorem keyInt {q : IntKind} (hu : P.underlying kt = some (.int q)) : KeyOk P kt (intK q) (fun x => InR q x) where
  check b k w _ := by
    unfold Instr.checkKey
    simp [intK, run_underlying hu]
  find es ks k w _ hk _ := by
    have key : ∀ (es : List MapEntry) (ks : List Int) (i : Nat), es.map (·.key) = ks.map (intK q) → Instr.findNow (.int q) (intK q k) es i = some ((kix k ks).bind fun j => es[j]?.map fun e => (i + j, e.val)) := by
      intro es
      induction es with
      | nil => intro ks i h; cases ks with
                             | nil => rfl
                             | cons x ks => simp at h
      | cons e es ih =>
        intro ks i h
        cases ks with
        | nil => simp at h
        | cons x ks =>
          simp only [List.map_cons, List.cons.injEq] at h
          have hs : Instr.sameNow (.int q) (intK q k) e.key = some (decide (k = x)) := by
            rw [h.1]
            simp only [Instr.sameNow, intK, if_true]
            rfl
          unfold Instr.findNow
          rw [hs]
          by_cases hx : k = x
          · simp [hx, kix]
          · simp only [hx, decide_false, kix, if_neg hx]
            rw [ih ks (i + 1) h.2]
            cases kix k ks with
            | none => rfl
            | some j => simp [Nat.add_comm, Nat.add_left_comm]
    have := key es ks 0 hk
    simp only [Nat.zero_add] at this
    simp only [Instr.findKey, Sem.run_bind, run_underlying hu, Result.andThen_ok]
    rw [this]
    rfl
  same k := by simp [Instr.sameBits, intK]
theorem hk_int {q : IntKind} {x : Int} : ∀ Φ u, (intVP q x).p Φ u → u = intK q x ∧ InR q x := fun _ _ h => ⟨h.1, h.2⟩
end keys
end Go.Proofs.YtklikgigjdgjaaaGreatDoorRRR
