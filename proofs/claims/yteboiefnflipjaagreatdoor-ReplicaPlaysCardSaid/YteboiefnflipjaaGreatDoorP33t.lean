/- Plain laws: P33s, P33t, as one text. -/
import Derived.Test.YteboiefnflipjaaGreatDoorP7
namespace Go.Proofs.YteboiefnflipjaaGreatDoor
open Go Go.RowKit Go.Proofs
section
set_option linter.unusedVariables false

theorem Mx {α : Type} [Inhabited α] (l : List α) (i : Nat) (h : i < l.length) : l.getD (i : Int).toNat default = l[i] := by simp [List.getD, h]
theorem RM (a b : List (List UInt8)) (hl : a.length < 1000000) : CB a b = some (decide (a = b)) := by
  unfold CB
  by_cases hab : a.length = b.length
  · rw [if_neg (by simp [hab])]
    obtain ⟨c, h1, h2⟩ := B7 (body := fun s : Int => CB.b1 a b s) (fun s => ∃ i : Nat, i ≤ a.length ∧ s = (i : Int) ∧ ∀ j, j < i → a[j]? = b[j]?)
      (fun c => match c with | .next _ => a = b | .ret r => r = false ∧ a ≠ b) (fun s => (a.length - s).toNat)
      (fun s ⟨i, hi, hs, hj⟩ => by
        subst hs
        by_cases h : i < a.length
        · have e1 := Mx a i h
          have e2 := Mx b i (by omega)
          by_cases he : a[i] = b[i]'(by omega)
          · refine .inl ⟨((i + 1 : Nat) : Int), ?_, ⟨i + 1, by omega, rfl, fun j hj' => ?_⟩, by simp; omega⟩
            · unfold CB.b1
              rw [if_pos (by simp; omega), if_pos (by omega), if_pos (by omega), e1, e2, if_neg (by simp [he]), Er (by omega)]
              rfl
            · by_cases e : j = i
              · subst e; simp [h, show j < b.length by omega, he]
              · exact hj j (by omega)
          · refine .inr (.inr ⟨false, ?_, rfl, fun e => he (by subst e; rfl)⟩)
            unfold CB.b1
            rw [if_pos (by simp; omega), if_pos (by omega), if_pos (by omega), e1, e2, if_pos (by simp [he])]
        · have : i = a.length := by omega
          subst this
          refine .inr (.inl ⟨((a.length : Nat) : Int), ?_, ?_⟩)
          · unfold CB.b1
            rw [if_neg (by simp)]
          · refine List.ext_getElem? fun j => ?_
            by_cases hlt : j < a.length
            · exact hj j hlt
            · rw [List.getElem?_eq_none (by omega), List.getElem?_eq_none (by omega)]) (((a.length : Int) - 0 : Int).toNat + 2) 0 ⟨0, by omega, rfl, fun j hj => by omega⟩ (by simp)
    cases c with
    | ret r =>
      obtain ⟨rfl, h2⟩ := h2
      refine Ax h1 ?_
      simp [h2]
    | next s =>
      have h2 : a = b := h2
      refine Ax h1 ?_
      simp [h2]
  · rw [if_pos (by simp; omega)]
    have : ¬ a = b := fun e => hab (by rw [e])
    simp [this]
end

section
set_option linter.unusedVariables false

end
end Go.Proofs.YteboiefnflipjaaGreatDoor
