/- Plain laws of the document's climb and verification without a log. -/
import Derived.Test.YtamnmljgcmbliaaDoorP23a
import Derived.Test.YtamnmljgcmbliaaDoorP10
namespace Go.Proofs.YtamnmljgcmbliaaDoor
open Go Go.RowKit Go.Proofs
set_option linter.unusedVariables false
theorem u64of {n : Nat} (h : n < 1000000) : IntKind.wrap .u64 (n : Int) = (n : Int) := by simp only [IntKind.wrap, IntKind.bits, IntKind.signed]; simp; omega
end Go.Proofs.YtamnmljgcmbliaaDoor
