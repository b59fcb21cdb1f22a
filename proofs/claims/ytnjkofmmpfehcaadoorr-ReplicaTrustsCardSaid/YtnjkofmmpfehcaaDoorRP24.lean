/- Plain laws: P24a, P24, as one text. -/
import Derived.Test.YtnjkofmmpfehcaaDoorRP22a
import Derived.Test.YtnjkofmmpfehcaaDoorRP23a
import Derived.Test.YtnjkofmmpfehcaaDoorRP23
import Derived.Test.YtnjkofmmpfehcaaDoorRP22a
namespace Go.Proofs.YtnjkofmmpfehcaaDoorR
open Go Go.RowKit Go.Proofs
section
set_option linter.unusedVariables false

theorem inr32 {x : Int} (h : InR .u32 x) : 0 ≤ x ∧ x < 4294967296 := by
  have h1 := h.1
  have h2 := h.2
  simp [IntKind.min, IntKind.max, IntKind.bits, IntKind.signed] at h1 h2
  omega
end

section
set_option linter.unusedVariables false

end
end Go.Proofs.YtnjkofmmpfehcaaDoorR
