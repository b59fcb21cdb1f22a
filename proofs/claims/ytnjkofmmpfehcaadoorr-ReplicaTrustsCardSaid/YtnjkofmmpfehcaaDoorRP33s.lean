/- Plain laws of lists held against each other. -/
import Derived.Test.YtnjkofmmpfehcaaDoorRP7
namespace Go.Proofs.YtnjkofmmpfehcaaDoorR
open Go Go.RowKit Go.Proofs
set_option linter.unusedVariables false

end Go.Proofs.YtnjkofmmpfehcaaDoorR
