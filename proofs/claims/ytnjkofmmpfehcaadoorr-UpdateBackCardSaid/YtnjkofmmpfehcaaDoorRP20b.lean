/- Plain laws of keys: what a fresh signer signs first, and that it is verified. -/
import Derived.Test.YtnjkofmmpfehcaaDoorRP20
namespace Go.Proofs.YtnjkofmmpfehcaaDoorR
open Go Go.RowKit Go.Proofs
set_option linter.unusedVariables false
/-- What a fresh signer signs first. -/
theorem again0 (L : Option O_Log) {seed d : List UInt8} (h : seed.length = 32) : ∃ L', keys_Signer_Again ⟨seed, 0, leaves seed⟩ L 0 d = some (⟨0, sgP seed 0 d, sgO seed 0 d, path0 (leaves seed)⟩, 0, L') ∧ (L = none → L' = none) := by
  obtain ⟨L1, a1, b1⟩ := sign_eq L h 0 d
  obtain ⟨L2, a2, b2⟩ := path_eq L1 (s := ⟨seed, 0, leaves seed⟩) (leaves_len h).1 (leaves_len h).2
  refine ⟨L2, ?_, fun e => b2 (b1 e)⟩
  have hl := (leaves_len h).1
  unfold keys_Signer_Again
  rw [if_neg (by simp [hl]), if_neg (by simp)]
  unfold keys_Signer_Again.j1
  rw [if_neg (by simp)]
  exact bind_of a1 (bind_of a2 rfl)
theorem sign0 (L : Option O_Log) {seed d : List UInt8} (h : seed.length = 32) : ∃ L', keys_Signer_Sign ⟨seed, 0, leaves seed⟩ L d = some (⟨seed, 1, leaves seed⟩, ⟨0, sgP seed 0 d, sgO seed 0 d, path0 (leaves seed)⟩, 0, L') ∧ (L = none → L' = none) := by
  obtain ⟨L1, a1, b1⟩ := again0 L (d := d) h
  have hl := (leaves_len h).1
  have hc : slices_Clone_api_Digest (leaves seed) = some (leaves seed) := by
    unfold slices_Clone_api_Digest
    rw [if_pos (by omega)]
  refine ⟨L1, ?_, b1⟩
  unfold keys_Signer_Sign
  rw [if_neg (by simp)]
  unfold keys_Signer_Sign.j1
  rw [if_neg (by simp)]
  refine bind_of a1 ?_
  rw [if_neg (by simp)]
  exact bind_of hc rfl
theorem verify0 (L : Option O_Log) {seed d : List UInt8} (h : seed.length = 32) : ∃ L', keys_Verify L (rootL (leaves seed)) d ⟨0, sgP seed 0 d, sgO seed 0 d, path0 (leaves seed)⟩ = some (true, L') ∧ (L = none → L' = none) := by
  obtain ⟨L1, a1, b1⟩ := opened_eq L d (sgP_len h 0 d) (sgO_len h 0 d)
  obtain ⟨hl, h32⟩ := leaves_len h
  obtain ⟨n1, h1, n2, h2, n3, h3, n4, h4⟩ := levels hl h32
  have hw : wordOf (opn d (sgP seed 0 d) (sgO seed 0 d)) = (leaves seed).getD 0 default := by
    rw [opn_sign]
    simp [leaves, List.getD]
  rw [hw] at a1
  obtain ⟨L2, a2, b2⟩ := climb_eq L1 (get32 h32 (i := 0) (by omega)) (get32 h32 (i := 1) (by omega)) (get32 h1 (i := 1) (by omega)) (get32 h2 (i := 1) (by omega)) (get32 h3 (i := 1) (by omega))
  rw [climb_root hl h32] at a2
  refine ⟨L2, ?_, fun e => b2 (b1 e)⟩
  unfold keys_Verify
  rw [if_neg (by simp), if_neg (by simp)]
  unfold keys_Verify.j1
  rw [if_neg (by simp [path0])]
  refine bind_of a1 ?_
  rw [if_pos rfl]
  refine bind_of (show keys_Climb L1 ((leaves seed).getD 0 default) 0 (path0 (leaves seed)) = _ from a2) ?_
  unfold keys_Verify.j2
  simp
end Go.Proofs.YtnjkofmmpfehcaaDoorR
