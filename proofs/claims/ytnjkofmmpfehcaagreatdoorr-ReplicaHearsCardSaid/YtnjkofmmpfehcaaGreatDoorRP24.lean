/- Plain laws: P24a, P24, as one text. -/
import Derived.Test.YtnjkofmmpfehcaaGreatDoorRP11a
import Derived.Test.YtnjkofmmpfehcaaGreatDoorRP23
import Derived.Test.YtnjkofmmpfehcaaGreatDoorRP23
import Derived.Test.YtnjkofmmpfehcaaGreatDoorRP11a
namespace Go.Proofs.YtnjkofmmpfehcaaGreatDoorR
open Go Go.RowKit Go.Proofs
section
set_option linter.unusedVariables false

theorem inr32 {x : Int} (h : InR .u32 x) : 0 ≤ x ∧ x < 4294967296 := by
  have h1 := h.1
  have h2 := h.2
  simp [IntKind.min, IntKind.max, IntKind.bits, IntKind.signed] at h1 h2
  omega
def UpdW (u : S_api_Update) : Prop := InR .u32 u.f_Home ∧ u.f_Old.length = 32 ∧ u.f_New.length = 32 ∧ Sig32 u.f_Sig
noncomputable def rightV (root : List UInt8) (u : S_api_Update) : Bool := verV root (claim u.f_Home u.f_Old u.f_New) u.f_Sig
theorem right_eq (L : Option O_Log) (root : List UInt8) {u : S_api_Update} (h : UpdW u) : ∃ L', update_Right L root u = some (rightV root u, L') ∧ (L = none → L' = none) := by
  obtain ⟨L1, a1, b1⟩ := claim_eq L (inr32 h.1) h.2.1 h.2.2.1
  obtain ⟨L2, a2, b2⟩ := verify_eq L1 root (claim u.f_Home u.f_Old u.f_New) h.2.2.2
  refine ⟨L2, ?_, fun e => b2 (b1 e)⟩
  unfold update_Right
  exact bind_of a1 (bind_of a2 rfl)
end

section
set_option linter.unusedVariables false

def StopW (s : S_api_Stop) : Prop := InR .u32 s.f_Home ∧ s.f_Key.length = 32 ∧ Sig32 s.f_Sig
noncomputable def haltsV (root : List UInt8) (s : S_api_Stop) : Bool := verV root (haltD s.f_Home s.f_Key s.f_Watcher) s.f_Sig
theorem halts_eq (L : Option O_Log) (root : List UInt8) {s : S_api_Stop} (h : StopW s) : ∃ L', update_Halts L root s = some (haltsV root s, L') ∧ (L = none → L' = none) := by
  obtain ⟨L1, a1, b1⟩ := halt_eq L (inr32 h.1) h.2.1 s.f_Watcher
  obtain ⟨L2, a2, b2⟩ := verify_eq L1 root (haltD s.f_Home s.f_Key s.f_Watcher) h.2.2
  refine ⟨L2, ?_, fun e => b2 (b1 e)⟩
  unfold update_Halts
  exact bind_of a1 (bind_of a2 rfl)
theorem rright0 (root : List UInt8) {u : S_api_Update} (h : UpdW u) : ref10_Right none root u = some (rightV root u, none) := by
  unfold ref10_Right
  exact bind_of (rclaim_none u.f_Home h.2.1 h.2.2.1) (bind_of (rverify0 root _ h.2.2.2) rfl)
theorem rhalts0 (root : List UInt8) {s : S_api_Stop} (h : StopW s) : ref10_Halts none root s = some (haltsV root s, none) := by
  unfold ref10_Halts
  exact bind_of (rhalt_none s.f_Home h.2.1 s.f_Watcher) (bind_of (rverify0 root _ h.2.2) rfl)
noncomputable def dblV (root : List UInt8) (a b : S_api_Update) : Bool := decide (a.f_Home = b.f_Home) && decide (a.f_Old = b.f_Old) && !decide (a.f_New = b.f_New) && rightV root a && rightV root b
theorem double_eq (L : Option O_Log) (root : List UInt8) {a b : S_api_Update} (ha : UpdW a) (hb : UpdW b) : ∃ L', update_Double L root a b = some (dblV root a b, L') ∧ (L = none → L' = none) := by
  obtain ⟨L1, a1, b1⟩ := right_eq L root ha
  obtain ⟨L2, a2, b2⟩ := right_eq L1 root hb
  unfold update_Double dblV
  by_cases h1 : a.f_Home = b.f_Home
  · rw [if_pos (by simpa using h1)]
    by_cases h2 : a.f_Old = b.f_Old
    · rw [if_pos (by simpa using h2)]
      by_cases h3 : a.f_New = b.f_New
      · rw [if_neg (by simp [h3])]
        exact ⟨L, by unfold update_Double.j1; simp [h3], fun e => e⟩
      · rw [if_pos (by simp [h3])]
        cases hr : rightV root a with
        | false =>
          rw [hr] at a1
          exact ⟨L1, bind_of a1 (by rw [if_neg (by simp)]; unfold update_Double.j1; simp), b1⟩
        | true =>
          rw [hr] at a1
          exact ⟨L2, bind_of a1 (by rw [if_pos rfl]; exact bind_of a2 (by unfold update_Double.j1; simp [h1, h2, h3])), fun e => b2 (b1 e)⟩
    · rw [if_neg (by simpa using h2)]
      exact ⟨L, by unfold update_Double.j1; simp [h2], fun e => e⟩
  · rw [if_neg (by simpa using h1)]
    exact ⟨L, by unfold update_Double.j1; simp [h1], fun e => e⟩
theorem rdouble0 (root : List UInt8) {a b : S_api_Update} (ha : UpdW a) (hb : UpdW b) : ref10_Double none root a b = some (dblV root a b, none) := by
  have a1 := rright0 root ha
  have a2 := rright0 root hb
  unfold ref10_Double dblV
  by_cases h1 : a.f_Home = b.f_Home
  · rw [if_neg (by simp [h1])]
    by_cases h2 : a.f_Old = b.f_Old
    · rw [if_neg (by simp [h2])]
      unfold ref10_Double.j1
      by_cases h3 : a.f_New = b.f_New
      · rw [if_pos (by simp [h3])]
        simp [h3]
      · rw [if_neg (by simp [h3])]
        refine bind_of a1 ?_
        cases hr : rightV root a with
        | false =>
          rw [if_neg (by simp)]; unfold ref10_Double.j2; simp
        | true =>
          rw [if_pos rfl]; exact bind_of a2 (by unfold ref10_Double.j2; simp [h1, h2, h3])
    · rw [if_pos (by simp [h2])]
      unfold ref10_Double.j1
      rw [if_pos rfl]
      simp [h2]
  · rw [if_pos (by simp [h1])]
    unfold ref10_Double.j1
    rw [if_pos rfl]
    simp [h1]
end
end Go.Proofs.YtnjkofmmpfehcaaGreatDoorR
