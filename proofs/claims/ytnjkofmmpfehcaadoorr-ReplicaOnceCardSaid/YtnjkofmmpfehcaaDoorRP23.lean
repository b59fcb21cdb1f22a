/- Plain laws: P23a, P23, as one text. -/
import Derived.Test.YtnjkofmmpfehcaaDoorRP20b
import Derived.Test.YtnjkofmmpfehcaaDoorRP11a
namespace Go.Proofs.YtnjkofmmpfehcaaDoorR
open Go Go.RowKit Go.Proofs
section
set_option linter.unusedVariables false

end

section
set_option linter.unusedVariables false

end
end Go.Proofs.YtnjkofmmpfehcaaDoorR
