/- Plain laws: P20, P20b, P23a, as one text. -/
import Derived.Test.YtnjkofmmpfehcaaDoorRP7
namespace Go.Proofs.YtnjkofmmpfehcaaDoorR
open Go Go.RowKit Go.Proofs
section
set_option linter.unusedVariables false

noncomputable def nd (a b : List UInt8) : List UInt8 := H (inp 4 [a, b])
theorem ndSmall {a b : List UInt8} (ha : a.length = 32) (hb : b.length = 32) : Small [a, b] := ⟨fun p hp => by simp only [List.mem_cons, List.not_mem_nil, or_false] at hp; rcases hp with rfl | rfl <;> omega, by simp⟩
theorem nd_len {a b : List UInt8} (ha : a.length = 32) (hb : b.length = 32) : (nd a b).length = 32 := ((ndSmall ha hb).H 4).2
/-- The level above. -/
noncomputable def upA (l : List (List UInt8)) (j : Nat) : List UInt8 := nd (l.getD (2 * j) default) (l.getD (2 * j + 1) default)
noncomputable def upL (l : List (List UInt8)) : List (List UInt8) := (List.range (l.length / 2)).map (upA l)
theorem get32 {l : List (List UInt8)} (h : ∀ p ∈ l, p.length = 32) {i : Nat} (hi : i < l.length) : (l.getD i default).length = 32 := by
  rw [show l.getD i default = l[i] from by simp [List.getD, hi]]
  exact h _ (List.getElem_mem hi)
theorem upL_len {l : List (List UInt8)} (h : ∀ p ∈ l, p.length = 32) : (upL l).length = l.length / 2 ∧ ∀ p ∈ upL l, p.length = 32 := by
  refine ⟨by simp [upL], fun p hp => ?_⟩
  obtain ⟨j, hj, rfl⟩ := List.mem_map.1 hp
  have hj : j < l.length / 2 := List.mem_range.1 hj
  exact nd_len (get32 h (by omega)) (get32 h (by omega))
end

section
set_option linter.unusedVariables false

end

section
set_option linter.unusedVariables false

/-- Up from a leaf, along a path. -/
noncomputable def climbV : List (List UInt8) → Nat → List UInt8 → List UInt8
  | [], _, w => w
  | p :: ps, n, w => climbV ps (n / 2) (if n % 2 = 1 then nd p w else nd w p)
end
end Go.Proofs.YtnjkofmmpfehcaaDoorR
