/- Plain laws: P24a, P22a, P11a, P23, P24, as one text. -/
import Derived.Test.YteboiefnflipjaaGreatDoorP32
namespace Go.Proofs.YteboiefnflipjaaGreatDoor
open Go Go.RowKit Go.Proofs
section
set_option linter.unusedVariables false

end

section
set_option linter.unusedVariables false

end

section
set_option linter.unusedVariables false

end

section
set_option linter.unusedVariables false

end

section
set_option linter.unusedVariables false

end
end Go.Proofs.YteboiefnflipjaaGreatDoor
