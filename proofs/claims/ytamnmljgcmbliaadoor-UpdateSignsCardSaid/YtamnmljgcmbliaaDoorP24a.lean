/- Plain laws of an update that is right. -/
import Derived.Test.YtamnmljgcmbliaaDoorP21
import Derived.Test.YtamnmljgcmbliaaDoorP23a
namespace Go.Proofs.YtamnmljgcmbliaaDoor
open Go Go.RowKit Go.Proofs
set_option linter.unusedVariables false

theorem inr32 {x : Int} (h : InR .u32 x) : 0 ≤ x ∧ x < 4294967296 := by
  have h1 := h.1
  have h2 := h.2
  simp [IntKind.min, IntKind.max, IntKind.bits, IntKind.signed] at h1 h2
  omega
end Go.Proofs.YtamnmljgcmbliaaDoor
