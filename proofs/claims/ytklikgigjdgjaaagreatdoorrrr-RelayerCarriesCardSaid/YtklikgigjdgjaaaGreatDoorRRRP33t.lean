/- Plain laws: P33s, P33t, as one text. -/
import Derived.Test.YtklikgigjdgjaaaGreatDoorRRRP7
namespace Go.Proofs.YtklikgigjdgjaaaGreatDoorRRR
open Go Go.RowKit Go.Proofs
section
set_option linter.unusedVariables false

theorem getD_nat {α : Type} [Inhabited α] (l : List α) (i : Nat) (h : i < l.length) : l.getD (i : Int).toNat default = l[i] := by simp [List.getD, h]
theorem sameL (a b : List (List UInt8)) (hl : a.length < 1000000) : ref03_SameList a b = some (decide (a = b)) := by
  unfold ref03_SameList
  by_cases hab : a.length = b.length
  · rw [if_neg (by simp [hab])]
    obtain ⟨c, h1, h2⟩ := loop_ok (body := fun s : Int => ref03_SameList.b1 a b s) (fun s => ∃ i : Nat, i ≤ a.length ∧ s = (i : Int) ∧ ∀ j, j < i → a[j]? = b[j]?)
      (fun c => match c with | .next _ => a = b | .ret r => r = false ∧ a ≠ b) (fun s => (a.length - s).toNat)
      (fun s ⟨i, hi, hs, hj⟩ => by
        subst hs
        by_cases h : i < a.length
        · have e1 := getD_nat a i h
          have e2 := getD_nat b i (by omega)
          by_cases he : a[i] = b[i]'(by omega)
          · refine .inl ⟨((i + 1 : Nat) : Int), ?_, ⟨i + 1, by omega, rfl, fun j hj' => ?_⟩, by simp; omega⟩
            · unfold ref03_SameList.b1
              rw [if_pos (by simp; omega), if_pos (by omega), if_pos (by omega), e1, e2, if_neg (by simp [he]), w64 (by omega)]
              rfl
            · by_cases e : j = i
              · subst e; simp [h, show j < b.length by omega, he]
              · exact hj j (by omega)
          · refine .inr (.inr ⟨false, ?_, rfl, fun e => he (by subst e; rfl)⟩)
            unfold ref03_SameList.b1
            rw [if_pos (by simp; omega), if_pos (by omega), if_pos (by omega), e1, e2, if_pos (by simp [he])]
        · have : i = a.length := by omega
          subst this
          refine .inr (.inl ⟨((a.length : Nat) : Int), ?_, ?_⟩)
          · unfold ref03_SameList.b1
            rw [if_neg (by simp)]
          · refine List.ext_getElem? fun j => ?_
            by_cases hlt : j < a.length
            · exact hj j hlt
            · rw [List.getElem?_eq_none (by omega), List.getElem?_eq_none (by omega)]) (((a.length : Int) - 0 : Int).toNat + 2) 0 ⟨0, by omega, rfl, fun j hj => by omega⟩ (by simp)
    cases c with
    | ret r =>
      obtain ⟨rfl, h2⟩ := h2
      refine bind_of h1 ?_
      simp [h2]
    | next s =>
      have h2 : a = b := h2
      refine bind_of h1 ?_
      simp [h2]
  · rw [if_pos (by simp; omega)]
    have : ¬ a = b := fun e => hab (by rw [e])
    simp [this]
end

section
set_option linter.unusedVariables false

def sigEq (a b : S_api_Sig) : Bool := decide (a.f_Index = b.f_Index) && decide (a.f_Parts = b.f_Parts) && decide (a.f_Others = b.f_Others) && decide (a.f_Path = b.f_Path)
theorem sigEq_self (a : S_api_Sig) : sigEq a a = true := by simp [sigEq]
theorem sameS (a b : S_api_Sig) (h : a.f_Parts.length < 1000000 ∧ a.f_Others.length < 1000000 ∧ a.f_Path.length < 1000000) : ref03_SameSig a b = some (sigEq a b) := by
  have e1 := sameL a.f_Parts b.f_Parts h.1
  have e2 := sameL a.f_Others b.f_Others h.2.1
  have e3 := sameL a.f_Path b.f_Path h.2.2
  unfold ref03_SameSig ref03_SameSig.j1 sigEq
  by_cases h1 : a.f_Index = b.f_Index
  · rw [if_pos (by simp [h1])]
    refine bind_of e1 ?_
    by_cases h2 : a.f_Parts = b.f_Parts
    · rw [if_pos (by simp [h2])]
      refine bind_of e2 ?_
      by_cases h3 : a.f_Others = b.f_Others
      · rw [if_pos (by simp [h3])]
        refine bind_of e3 ?_
        simp [h1, h2, h3]
      · rw [if_neg (by simp [h3])]
        simp [h3]
    · rw [if_neg (by simp [h2])]
      simp [h2]
  · rw [if_neg (by simp [h1])]
    simp [h1]
end
end Go.Proofs.YtklikgigjdgjaaaGreatDoorRRR
