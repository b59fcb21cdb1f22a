/- Plain law of UpdateDigests: the claim, and the halt, of anything. -/
import Derived.Test.YtamnmljgcmbliaaDoorP21
import Derived.Test.YtamnmljgcmbliaaDoorP8a
namespace Go.Proofs.YtamnmljgcmbliaaDoor
open Go Go.RowKit Go.Proofs
set_option linter.unusedVariables false

theorem rNone (d : Int) {ps : List (List UInt8)} (h : Small ps) : ref04_Log_Of none d ps = some (H (inp d ps), none) := by
  have he := h.enc
  unfold ref04_Log_Of
  exact bind_of (ref_input d ps (fun p hp => by have := h.1 p hp; omega) (by omega) (by have := h.2; omega)) (bind_of (h.R d) (bind_of rfl rfl))
def htP (home : Int) (a : List UInt8) (w : Int) : List (List UInt8) := [wrd home, a, wrd w]
theorem htSmall {home w : Int} {a : List UInt8} (ha : a.length = 32) : Small (htP home a w) := ⟨fun p hp => by
  simp only [htP, List.mem_cons, List.not_mem_nil, or_false] at hp
  rcases hp with rfl | rfl | rfl
  · simp [wrd, hd4]
  · omega
  · simp [wrd, hd4], by simp [htP]⟩
noncomputable def haltD (home : Int) (a : List UInt8) (w : Int) : List UInt8 := H (inp 9 (htP home a w))
theorem halt_eq (L : Option O_Log) {home : Int} (hh : 0 ≤ home ∧ home < 4294967296) {a : List UInt8} (ha : a.length = 32) (w : Int) : ∃ L', update_Halt L home a w = some (haltD home a w, L') ∧ (L = none → L' = none) := by
  obtain ⟨L', h1, h2⟩ := dOf L 9 (htSmall (home := home) (w := w) ha)
  refine ⟨L', ?_, h2⟩
  unfold update_Halt
  exact bind_of (wordU hh) (bind_of (dig_eq ha) (bind_of (word_text w) (bind_of h1 rfl)))
theorem rclaim_none (home : Int) {a b : List UInt8} (ha : a.length = 32) (hb : b.length = 32) : ref10_Claim none home a b = some (claim home a b, none) := by
  unfold ref10_Claim
  exact bind_of (rword_eq home) (bind_of (rdig_eq ha) (bind_of (rdig_eq hb) (bind_of (rNone 7 (clSmall (home := home) ha hb)) rfl)))
theorem rhalt_none (home : Int) {a : List UInt8} (ha : a.length = 32) (w : Int) : ref10_Halt none home a w = some (haltD home a w, none) := by
  unfold ref10_Halt
  exact bind_of (rword_eq home) (bind_of (rdig_eq ha) (bind_of (rword_eq w) (bind_of (rNone 9 (htSmall (home := home) (w := w) ha)) rfl)))
theorem updateDigests_true (home : Int) (a b : List UInt8) (w : Int) (hh : InR .u32 home) (ha : a.length = 32) (hb : b.length = 32) : law10_UpdateDigests home a b w = some true := by
  have h1 := hh.1
  have h2 := hh.2
  simp [IntKind.min, IntKind.max, IntKind.bits, IntKind.signed] at h1 h2
  obtain ⟨L1, a1, b1⟩ := claim_eq none (home := home) (by omega) ha hb
  obtain ⟨L2, a2, _⟩ := halt_eq L1 (home := home) (by omega) ha w
  unfold law10_UpdateDigests
  refine bind_of awake10 ?_
  rw [if_pos rfl]
  refine bind_of a1 ?_
  refine bind_of (rclaim_none home ha hb) ?_
  rw [if_pos (by simp)]
  refine bind_of a2 ?_
  refine bind_of (rhalt_none home ha w) ?_
  unfold law10_UpdateDigests.j1
  simp
end Go.Proofs.YtamnmljgcmbliaaDoor
