/- Plain laws: P20, P20b, as one text. -/
import Derived.Test.YtnjkofmmpfehcaaGreatDoorRP7
namespace Go.Proofs.YtnjkofmmpfehcaaGreatDoorR
open Go Go.RowKit Go.Proofs
section
set_option linter.unusedVariables false

noncomputable def nd (a b : List UInt8) : List UInt8 := H (inp 4 [a, b])
theorem ndSmall {a b : List UInt8} (ha : a.length = 32) (hb : b.length = 32) : Small [a, b] := ⟨fun p hp => by simp only [List.mem_cons, List.not_mem_nil, or_false] at hp; rcases hp with rfl | rfl <;> omega, by simp⟩
theorem nd_len {a b : List UInt8} (ha : a.length = 32) (hb : b.length = 32) : (nd a b).length = 32 := ((ndSmall ha hb).H 4).2
theorem two_eq (L : Option O_Log) {a b : List UInt8} (ha : a.length = 32) (hb : b.length = 32) : ∃ L', digest_Log_Two L 4 a b = some (nd a b, L') ∧ (L = none → L' = none) := by
  obtain ⟨L', h1, h2⟩ := dOf L 4 (ndSmall ha hb)
  refine ⟨L', ?_, h2⟩
  unfold digest_Log_Two
  exact bind_of (dig_eq ha) (bind_of (dig_eq hb) (bind_of h1 rfl))
theorem get32 {l : List (List UInt8)} (h : ∀ p ∈ l, p.length = 32) {i : Nat} (hi : i < l.length) : (l.getD i default).length = 32 := by
  rw [show l.getD i default = l[i] from by simp [List.getD, hi]]
  exact h _ (List.getElem_mem hi)
theorem word_len {ps : List (List UInt8)} (h : ps.length = 64) (hp : ∀ p ∈ ps, p.length = 32) : (wordOf ps).length = 32 := ((flatSmall h hp).H 3).2
end

section
set_option linter.unusedVariables false

end
end Go.Proofs.YtnjkofmmpfehcaaGreatDoorR
