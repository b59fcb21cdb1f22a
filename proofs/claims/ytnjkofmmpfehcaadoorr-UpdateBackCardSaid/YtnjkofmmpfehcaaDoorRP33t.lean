/- Plain laws of signatures held against each other. -/
import Derived.Test.YtnjkofmmpfehcaaDoorRP33s
namespace Go.Proofs.YtnjkofmmpfehcaaDoorR
open Go Go.RowKit Go.Proofs
set_option linter.unusedVariables false

def sigEq (a b : S_api_Sig) : Bool := decide (a.f_Index = b.f_Index) && decide (a.f_Parts = b.f_Parts) && decide (a.f_Others = b.f_Others) && decide (a.f_Path = b.f_Path)
theorem sigEq_self (a : S_api_Sig) : sigEq a a = true := by simp [sigEq]
theorem sigEq_iff (a b : S_api_Sig) : sigEq a b = true ↔ a = b := by
  constructor
  · intro h
    simp only [sigEq, Bool.and_eq_true, decide_eq_true_eq] at h
    cases a; cases b
    simp_all
  · rintro rfl; exact sigEq_self a
theorem sameS (a b : S_api_Sig) (h : a.f_Parts.length < 1000000 ∧ a.f_Others.length < 1000000 ∧ a.f_Path.length < 1000000) : ref03_SameSig a b = some (sigEq a b) := by
  have e1 := sameL a.f_Parts b.f_Parts h.1
  have e2 := sameL a.f_Others b.f_Others h.2.1
  have e3 := sameL a.f_Path b.f_Path h.2.2
  unfold ref03_SameSig ref03_SameSig.j1 sigEq
  by_cases h1 : a.f_Index = b.f_Index
  · rw [if_pos (by simp [h1])]
    refine bind_of e1 ?_
    by_cases h2 : a.f_Parts = b.f_Parts
    · rw [if_pos (by simp [h2])]
      refine bind_of e2 ?_
      by_cases h3 : a.f_Others = b.f_Others
      · rw [if_pos (by simp [h3])]
        refine bind_of e3 ?_
        simp [h1, h2, h3]
      · rw [if_neg (by simp [h3])]
        simp [h3]
    · rw [if_neg (by simp [h2])]
      simp [h2]
  · rw [if_neg (by simp [h1])]
    simp [h1]
end Go.Proofs.YtnjkofmmpfehcaaDoorR
