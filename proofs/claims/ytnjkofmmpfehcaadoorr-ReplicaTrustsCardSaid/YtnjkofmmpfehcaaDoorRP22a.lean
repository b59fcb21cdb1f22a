/- Plain laws: P21, P22a, as one text. -/
import Derived.Test.YtnjkofmmpfehcaaDoorRP23a
import Derived.Test.YtnjkofmmpfehcaaDoorRP10
namespace Go.Proofs.YtnjkofmmpfehcaaDoorR
open Go Go.RowKit Go.Proofs
section
set_option linter.unusedVariables false

theorem wordU {x : Int} (h : 0 ≤ x ∧ x < 4294967296) : wire_Word x = some (wrd x) := by
  unfold wire_Word wrd
  rw [wu64 (by omega), wu32 h, big4]
  rfl
end

section
set_option linter.unusedVariables false

end
end Go.Proofs.YtnjkofmmpfehcaaDoorR
