/- Plain laws of update's halt, and of the document's claim and halt without a log. -/
import Derived.Test.YtamnmljgcmbliaaDoorP21
import Derived.Test.YtamnmljgcmbliaaDoorP8a
namespace Go.Proofs.YtamnmljgcmbliaaDoor
open Go Go.RowKit Go.Proofs
set_option linter.unusedVariables false

def htP (home : Int) (a : List UInt8) (w : Int) : List (List UInt8) := [wrd home, a, wrd w]
theorem htSmall {home w : Int} {a : List UInt8} (ha : a.length = 32) : Small (htP home a w) := ⟨fun p hp => by
  simp only [htP, List.mem_cons, List.not_mem_nil, or_false] at hp
  rcases hp with rfl | rfl | rfl
  · simp [wrd, hd4]
  · omega
  · simp [wrd, hd4], by simp [htP]⟩
noncomputable def haltD (home : Int) (a : List UInt8) (w : Int) : List UInt8 := H (inp 9 (htP home a w))
theorem halt_eq (L : Option O_Log) {home : Int} (hh : 0 ≤ home ∧ home < 4294967296) {a : List UInt8} (ha : a.length = 32) (w : Int) : ∃ L', update_Halt L home a w = some (haltD home a w, L') ∧ (L = none → L' = none) := by
  obtain ⟨L', h1, h2⟩ := dOf L 9 (htSmall (home := home) (w := w) ha)
  refine ⟨L', ?_, h2⟩
  unfold update_Halt
  exact bind_of (wordU hh) (bind_of (dig_eq ha) (bind_of (word_text w) (bind_of h1 rfl)))
theorem rclaim_none (home : Int) {a b : List UInt8} (ha : a.length = 32) (hb : b.length = 32) : ref10_Claim none home a b = some (claim home a b, none) := by
  unfold ref10_Claim
  exact bind_of (rword_eq home) (bind_of (rdig_eq ha) (bind_of (rdig_eq hb) (bind_of (rNone 7 (clSmall (home := home) ha hb)) rfl)))
theorem rhalt_none (home : Int) {a : List UInt8} (ha : a.length = 32) (w : Int) : ref10_Halt none home a w = some (haltD home a w, none) := by
  unfold ref10_Halt
  exact bind_of (rword_eq home) (bind_of (rdig_eq ha) (bind_of (rword_eq w) (bind_of (rNone 9 (htSmall (home := home) (w := w) ha)) rfl)))
end Go.Proofs.YtamnmljgcmbliaaDoor
