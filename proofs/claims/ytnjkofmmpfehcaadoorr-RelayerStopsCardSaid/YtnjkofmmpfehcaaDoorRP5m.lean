/- Plain laws of the document's numbers in bytes (where P5a and P8a are not at hand). -/
import Derived.Test.YtnjkofmmpfehcaaDoorRP7h
namespace Go.Proofs.YtnjkofmmpfehcaaDoorR
open Go Go.RowKit Go.Proofs
set_option linter.unusedVariables false

theorem u8mod (x : Nat) : (u8of (IntKind.wrap .u8 ((x % 256 : Nat) : Int))).toNat = x % 256 := by
  simp only [IntKind.wrap, IntKind.bits, IntKind.signed, u8of]
  simp
  omega
theorem loop_cont {R S : Type} {body : S → Option (Flow R S)} (k : Nat) {s s' : S} {r : Option (Ctl R S)} (h1 : body s = some (.cont s')) (h2 : loopN body k s' = r) : loopN body (k + 1) s = r := by
  unfold loopN
  rw [h1]
  exact h2
theorem loop_brk {R S : Type} {body : S → Option (Flow R S)} (k : Nat) {s s' : S} (h1 : body s = some (.brk s')) : loopN body (k + 1) s = some (.next s') := by
  unfold loopN
  rw [h1]
theorem wrap64 (i : Int) : ∃ n : Nat, IntKind.wrap .u64 i = (n : Int) ∧ n < 18446744073709551616 ∧ ((n : Int) = i % 18446744073709551616) := by
  refine ⟨(i % 18446744073709551616).toNat, ?_, by omega, by omega⟩
  simp only [IntKind.wrap, IntKind.bits, IntKind.signed]; simp; omega
theorem wrap32 (i : Int) : ∃ n : Nat, IntKind.wrap .u32 i = (n : Int) ∧ n < 4294967296 ∧ ((n : Int) = i % 4294967296) := by
  refine ⟨(i % 4294967296).toNat, ?_, by omega, by omega⟩
  simp only [IntKind.wrap, IntKind.bits, IntKind.signed]; simp; omega
end Go.Proofs.YtnjkofmmpfehcaaDoorR
