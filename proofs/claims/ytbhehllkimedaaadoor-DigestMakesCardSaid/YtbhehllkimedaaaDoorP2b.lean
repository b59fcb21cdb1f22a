/- Plain law of the logs: what a log answers to an ask, and the chapter's example. -/
import Derived.Test.YtbhehllkimedaaaDoorP2
namespace Go.Proofs.YtbhehllkimedaaaDoor
open Go Go.RowKit Go.Proofs
set_option linter.unusedVariables false

theorem of_eq (L : Option O_Log) (d : Int) (ps : List (List UInt8)) (hp : ∀ p ∈ ps, p.length < 4294967296) (hl : (enc ps).length + 1 ≤ 140737488355328) (hn : ps.length < 4294967296) : ∃ g, sha_Sum [u8of d :: enc ps] = some g ∧ g.length = 32 ∧ digest_Log_Of L d ps = (digest_Log_note L g (u8of d :: enc ps)).bind fun r => some (g, r) := by
  obtain ⟨g, h1, h2⟩ := sum_total (u8of d :: enc ps) (by simp [mxl]; omega)
  refine ⟨g, h1, h2, ?_⟩
  unfold digest_Log_Of
  rw [input_eq d ps hp hl hn, Option.bind_some, h1, Option.bind_some]
theorem awake_eq : law04_awake = some true := by
  unfold law04_awake digest_New
  rw [Option.bind_some]
  obtain ⟨g, h1, h2, h3⟩ := of_eq (some ⟨[], []⟩) 1 [] (by simp) (by simp [enc]) (by simp)
  have h1' : sha_Sum [[1]] = some g := h1
  have h4 : digest_Log_note (some ⟨[], []⟩) g (u8of 1 :: enc []) = some (some ⟨[(g, u8of 1 :: enc [])], []⟩) := rfl
  rw [h3, h4, Option.bind_some, Option.bind_some, h1', Option.bind_some]
  rw [if_pos (by simp)]
  have h5 : digest_Log_Count (some ⟨[(g, u8of 1 :: enc [])], []⟩) = some 1 := rfl
  have h6 : digest_Log_Clash (some ⟨[(g, u8of 1 :: enc [])], []⟩) = some false := rfl
  rw [h5, Option.bind_some, if_pos (by simp), h6, Option.bind_some]
  rfl
theorem light_bound {ps : List (List UInt8)} (h : ps.length ≤ 20 ∧ ∀ p ∈ ps, p.length ≤ 1000) : (enc ps).length ≤ 20 * 1004 := by
  have : ∀ (ps : List (List UInt8)), (∀ p ∈ ps, p.length ≤ 1000) → (enc ps).length ≤ ps.length * 1004 := by
    intro ps
    induction ps with
    | nil => intro _; simp [enc]
    | cons p ps ih =>
      intro hp
      have h1 := ih fun q hq => hp q (by simp [hq])
      have h2 := hp p (by simp)
      simp only [enc, List.length_append, List.length_cons]
      simp [hd4]
      omega
  exact Nat.le_trans (this ps h.2) (Nat.mul_le_mul_right _ h.1)
theorem u8of_inj {a b : Int} (ha : InR .u8 a) (hb : InR .u8 b) (h : u8of a = u8of b) : a = b := by
  have e := congrArg UInt8.toNat h
  have h1 := ha.1; have h2 := ha.2; have h3 := hb.1; have h4 := hb.2
  simp [IntKind.min, IntKind.max, IntKind.bits, IntKind.signed] at h1 h2 h3 h4
  simp [u8of] at e
  omega
end Go.Proofs.YtbhehllkimedaaaDoor
