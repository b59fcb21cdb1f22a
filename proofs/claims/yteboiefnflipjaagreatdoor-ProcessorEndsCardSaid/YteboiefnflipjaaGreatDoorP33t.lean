/- Plain laws: P33s, P33t, as one text. -/
import Derived.Test.YteboiefnflipjaaGreatDoorP7
namespace Go.Proofs.YteboiefnflipjaaGreatDoor
open Go Go.RowKit Go.Proofs
section
set_option linter.unusedVariables false

end

section
set_option linter.unusedVariables false

end
end Go.Proofs.YteboiefnflipjaaGreatDoor
