/- Plain laws: P20, P20b, as one text. -/
import Derived.Test.YtnjkofmmpfehcaaDoorRP7
namespace Go.Proofs.YtnjkofmmpfehcaaDoorR
open Go Go.RowKit Go.Proofs
section
set_option linter.unusedVariables false

theorem ndSmall {a b : List UInt8} (ha : a.length = 32) (hb : b.length = 32) : Small [a, b] := ⟨fun p hp => by simp only [List.mem_cons, List.not_mem_nil, or_false] at hp; rcases hp with rfl | rfl <;> omega, by simp⟩
end

section
set_option linter.unusedVariables false

end
end Go.Proofs.YtnjkofmmpfehcaaDoorR
