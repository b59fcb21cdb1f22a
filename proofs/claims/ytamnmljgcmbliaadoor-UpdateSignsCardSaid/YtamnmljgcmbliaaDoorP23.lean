/- Plain laws of the document's climb and verification without a log. -/
import Derived.Test.YtamnmljgcmbliaaDoorP23a
import Derived.Test.YtamnmljgcmbliaaDoorP22a
namespace Go.Proofs.YtamnmljgcmbliaaDoor
open Go Go.RowKit Go.Proofs
set_option linter.unusedVariables false
theorem rtwo0 {a b : List UInt8} (ha : a.length = 32) (hb : b.length = 32) : ref04_Log_Two none 4 a b = some (nd a b, none) := by
  unfold ref04_Log_Two
  exact bind_of (rdig_eq ha) (bind_of (rdig_eq hb) (bind_of (rNone 4 (ndSmall ha hb)) rfl))
theorem rpub0 {s : List UInt8} (h : s.length = 32) : ref05_Public none s = some (pub s, none) := by
  unfold ref05_Public
  exact bind_of (rdig_eq h) (bind_of (rNone 2 (pubSmall h)) rfl)
end Go.Proofs.YtamnmljgcmbliaaDoor
