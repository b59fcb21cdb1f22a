/- Plain laws: P24a, P22a, P11a, P23, P24, as one text. -/
import Derived.Test.YtklikgigjdgjaaaGreatDoorRRRP32
import Derived.Test.YtklikgigjdgjaaaGreatDoorRRRP32
import Derived.Test.YtklikgigjdgjaaaGreatDoorRRRP32
namespace Go.Proofs.YtklikgigjdgjaaaGreatDoorRRR
open Go Go.RowKit Go.Proofs
section
set_option linter.unusedVariables false

theorem inr32 {x : Int} (h : InR .u32 x) : 0 ≤ x ∧ x < 4294967296 := by
  have h1 := h.1
  have h2 := h.2
  simp [IntKind.min, IntKind.max, IntKind.bits, IntKind.signed] at h1 h2
  omega
def UpdW (u : S_api_Update) : Prop := InR .u32 u.f_Home ∧ u.f_Old.length = 32 ∧ u.f_New.length = 32 ∧ Sig32 u.f_Sig
noncomputable def rightV (root : List UInt8) (u : S_api_Update) : Bool := verV root (claim u.f_Home u.f_Old u.f_New) u.f_Sig
theorem right_eq (L : Option O_Log) (root : List UInt8) {u : S_api_Update} (h : UpdW u) : ∃ L', update_Right L root u = some (rightV root u, L') ∧ (L = none → L' = none) := by
  obtain ⟨L1, a1, b1⟩ := claim_eq L (inr32 h.1) h.2.1 h.2.2.1
  obtain ⟨L2, a2, b2⟩ := verify_eq L1 root (claim u.f_Home u.f_Old u.f_New) h.2.2.2
  refine ⟨L2, ?_, fun e => b2 (b1 e)⟩
  unfold update_Right
  exact bind_of a1 (bind_of a2 rfl)
end

section
set_option linter.unusedVariables false

end

section
set_option linter.unusedVariables false

end

section
set_option linter.unusedVariables false

end

section
set_option linter.unusedVariables false

end
end Go.Proofs.YtklikgigjdgjaaaGreatDoorRRR
