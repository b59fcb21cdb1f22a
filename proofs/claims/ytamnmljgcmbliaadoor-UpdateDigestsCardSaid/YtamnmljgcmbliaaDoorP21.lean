/- Plain law of update's example: what a fresh signer signs is right under its root. -/
import Derived.Test.YtamnmljgcmbliaaDoorP20
namespace Go.Proofs.YtamnmljgcmbliaaDoor
open Go Go.RowKit Go.Proofs
set_option linter.unusedVariables false

theorem wordU {x : Int} (h : 0 ≤ x ∧ x < 4294967296) : wire_Word x = some (wrd x) := by
  unfold wire_Word wrd
  rw [wu64 (by omega), wu32 h, big4]
  rfl
def clP (home : Int) (a b : List UInt8) : List (List UInt8) := [wrd home, a, b]
theorem clSmall {home : Int} {a b : List UInt8} (ha : a.length = 32) (hb : b.length = 32) : Small (clP home a b) := ⟨fun p hp => by
  simp only [clP, List.mem_cons, List.not_mem_nil, or_false] at hp
  rcases hp with rfl | rfl | rfl
  · simp [wrd, hd4]
  · omega
  · omega, by simp [clP]⟩
noncomputable def claim (home : Int) (a b : List UInt8) : List UInt8 := H (inp 7 (clP home a b))
theorem claim_len {home : Int} {a b : List UInt8} (ha : a.length = 32) (hb : b.length = 32) : (claim home a b).length = 32 := ((clSmall ha hb).H 7).2
theorem claim_eq (L : Option O_Log) {home : Int} (hh : 0 ≤ home ∧ home < 4294967296) {a b : List UInt8} (ha : a.length = 32) (hb : b.length = 32) : ∃ L', update_Claim L home a b = some (claim home a b, L') ∧ (L = none → L' = none) := by
  obtain ⟨L', h1, h2⟩ := dOf L 7 (clSmall (home := home) ha hb)
  refine ⟨L', ?_, h2⟩
  unfold update_Claim
  exact bind_of (wordU hh) (bind_of (dig_eq ha) (bind_of (dig_eq hb) (bind_of h1 rfl)))
/-- What a fresh signer signs first. -/
theorem again0 (L : Option O_Log) {seed d : List UInt8} (h : seed.length = 32) : ∃ L', keys_Signer_Again ⟨seed, 0, leaves seed⟩ L 0 d = some (⟨0, sgP seed 0 d, sgO seed 0 d, path0 (leaves seed)⟩, 0, L') ∧ (L = none → L' = none) := by
  obtain ⟨L1, a1, b1⟩ := sign_eq L h 0 d
  obtain ⟨L2, a2, b2⟩ := path_eq L1 (s := ⟨seed, 0, leaves seed⟩) (leaves_len h).1 (leaves_len h).2
  refine ⟨L2, ?_, fun e => b2 (b1 e)⟩
  have hl := (leaves_len h).1
  unfold keys_Signer_Again
  rw [if_neg (by simp [hl]), if_neg (by simp)]
  unfold keys_Signer_Again.j1
  rw [if_neg (by simp)]
  exact bind_of a1 (bind_of a2 rfl)
theorem sign0 (L : Option O_Log) {seed d : List UInt8} (h : seed.length = 32) : ∃ L', keys_Signer_Sign ⟨seed, 0, leaves seed⟩ L d = some (⟨seed, 1, leaves seed⟩, ⟨0, sgP seed 0 d, sgO seed 0 d, path0 (leaves seed)⟩, 0, L') ∧ (L = none → L' = none) := by
  obtain ⟨L1, a1, b1⟩ := again0 L (d := d) h
  have hl := (leaves_len h).1
  have hc : slices_Clone_api_Digest (leaves seed) = some (leaves seed) := by
    unfold slices_Clone_api_Digest
    rw [if_pos (by omega)]
  refine ⟨L1, ?_, b1⟩
  unfold keys_Signer_Sign
  rw [if_neg (by simp)]
  unfold keys_Signer_Sign.j1
  rw [if_neg (by simp)]
  refine bind_of a1 ?_
  rw [if_neg (by simp)]
  exact bind_of hc rfl
theorem verify0 (L : Option O_Log) {seed d : List UInt8} (h : seed.length = 32) : ∃ L', keys_Verify L (rootL (leaves seed)) d ⟨0, sgP seed 0 d, sgO seed 0 d, path0 (leaves seed)⟩ = some (true, L') ∧ (L = none → L' = none) := by
  obtain ⟨L1, a1, b1⟩ := opened_eq L d (sgP_len h 0 d) (sgO_len h 0 d)
  obtain ⟨hl, h32⟩ := leaves_len h
  obtain ⟨n1, h1, n2, h2, n3, h3, n4, h4⟩ := levels hl h32
  have hw : wordOf (opn d (sgP seed 0 d) (sgO seed 0 d)) = (leaves seed).getD 0 default := by
    rw [opn_sign]
    simp [leaves, List.getD]
  rw [hw] at a1
  obtain ⟨L2, a2, b2⟩ := climb_eq L1 (get32 h32 (i := 0) (by omega)) (get32 h32 (i := 1) (by omega)) (get32 h1 (i := 1) (by omega)) (get32 h2 (i := 1) (by omega)) (get32 h3 (i := 1) (by omega))
  rw [climb_root hl h32] at a2
  refine ⟨L2, ?_, fun e => b2 (b1 e)⟩
  unfold keys_Verify
  rw [if_neg (by simp), if_neg (by simp)]
  unfold keys_Verify.j1
  rw [if_neg (by simp [path0])]
  refine bind_of a1 ?_
  rw [if_pos rfl]
  refine bind_of (show keys_Climb L1 ((leaves seed).getD 0 default) 0 (path0 (leaves seed)) = _ from a2) ?_
  unfold keys_Verify.j2
  simp
theorem awake10 : law10_awake = some true := by
  unfold law10_awake
  generalize h1 : ([u8of 1] ++ List.replicate (32 - 1) 0 : List UInt8) = d1
  generalize h2 : ([u8of 2] ++ List.replicate (32 - 1) 0 : List UInt8) = d2
  generalize h3 : ([u8of 3] ++ List.replicate (32 - 1) 0 : List UInt8) = d3
  have l1 : d1.length = 32 := by rw [← h1]; rfl
  have l2 : d2.length = 32 := by rw [← h2]; rfl
  have l3 : d3.length = 32 := by rw [← h3]; rfl
  clear h1 h2 h3
  obtain ⟨L1, a1, _⟩ := new_eq none l1
  obtain ⟨L2, a2, _⟩ := claim_eq L1 (home := 1) (by omega) l2 l3
  obtain ⟨L3, a3, _⟩ := sign0 L2 (d := claim 1 d2 d3) l1
  obtain ⟨L4, a4, _⟩ := root_eq L3 (s := ⟨d1, 0, leaves d1⟩) (leaves_len l1).1 (leaves_len l1).2
  obtain ⟨L5, a5, _⟩ := claim_eq L4 (home := 1) (by omega) l2 l3
  obtain ⟨L6, a6, _⟩ := verify0 L5 (d := claim 1 d2 d3) l1
  obtain ⟨L7, a7, _⟩ := root_eq L6 (s := ⟨d1, 0, leaves d1⟩) (leaves_len l1).1 (leaves_len l1).2
  obtain ⟨L8, a8, _⟩ := claim_eq L7 (home := 0) (a := List.replicate 32 0) (b := List.replicate 32 0) (by omega) (by simp) (by simp)
  have hs : update_Sign L1 ⟨d1, 0, leaves d1⟩ 1 d2 d3 = some (⟨d1, 1, leaves d1⟩, ⟨1, d2, d3, ⟨0, sgP d1 0 (claim 1 d2 d3), sgO d1 0 (claim 1 d2 d3), path0 (leaves d1)⟩⟩, 0, L3) := by
    unfold update_Sign
    refine bind_of a2 (bind_of a3 ?_)
    rw [if_neg (by simp)]
  have hr : update_Right L4 (rootL (leaves d1)) ⟨1, d2, d3, ⟨0, sgP d1 0 (claim 1 d2 d3), sgO d1 0 (claim 1 d2 d3), path0 (leaves d1)⟩⟩ = some (true, L6) := by
    unfold update_Right
    exact bind_of a5 (bind_of a6 rfl)
  have hz : update_Right L7 (rootL (leaves d1)) (S_api_Update.mk (0 : Int) (List.replicate 32 0) (List.replicate 32 0) (S_api_Sig.mk (0 : Int) [] [] [])) = some (false, L8) := by
    unfold update_Right
    refine bind_of a8 (bind_of (x := (false, L8)) ?_ rfl)
    unfold keys_Verify
    rw [if_neg (by simp), if_neg (by simp)]
    unfold keys_Verify.j1
    rw [if_pos (by simp)]
  refine bind_of a1 ?_
  refine bind_of hs ?_
  rw [if_pos (by simp)]
  refine bind_of a4 ?_
  refine bind_of hr ?_
  rw [if_pos rfl]
  refine bind_of a7 ?_
  refine bind_of hz ?_
  rfl
end Go.Proofs.YtamnmljgcmbliaaDoor
