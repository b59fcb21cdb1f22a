/- Plain laws of the document's climb and verification without a log. -/
import Derived.Test.YtnjkofmmpfehcaaDoorRP23a
import Derived.Test.YtnjkofmmpfehcaaDoorRP10
namespace Go.Proofs.YtnjkofmmpfehcaaDoorR
open Go Go.RowKit Go.Proofs
set_option linter.unusedVariables false

end Go.Proofs.YtnjkofmmpfehcaaDoorR
