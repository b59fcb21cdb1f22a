/- Plain law of update's example: what a fresh signer signs is right under its root. -/
import Derived.Test.YtamnmljgcmbliaaDoorP23a
namespace Go.Proofs.YtamnmljgcmbliaaDoor
open Go Go.RowKit Go.Proofs
set_option linter.unusedVariables false

theorem wordU {x : Int} (h : 0 ≤ x ∧ x < 4294967296) : wire_Word x = some (wrd x) := by
  unfold wire_Word wrd
  rw [wu64 (by omega), wu32 h, big4]
  rfl
def clP (home : Int) (a b : List UInt8) : List (List UInt8) := [wrd home, a, b]
theorem clSmall {home : Int} {a b : List UInt8} (ha : a.length = 32) (hb : b.length = 32) : Small (clP home a b) := ⟨fun p hp => by
  simp only [clP, List.mem_cons, List.not_mem_nil, or_false] at hp
  rcases hp with rfl | rfl | rfl
  · simp [wrd, hd4]
  · omega
  · omega, by simp [clP]⟩
noncomputable def claim (home : Int) (a b : List UInt8) : List UInt8 := H (inp 7 (clP home a b))
theorem claim_eq (L : Option O_Log) {home : Int} (hh : 0 ≤ home ∧ home < 4294967296) {a b : List UInt8} (ha : a.length = 32) (hb : b.length = 32) : ∃ L', update_Claim L home a b = some (claim home a b, L') ∧ (L = none → L' = none) := by
  obtain ⟨L', h1, h2⟩ := dOf L 7 (clSmall (home := home) ha hb)
  refine ⟨L', ?_, h2⟩
  unfold update_Claim
  exact bind_of (wordU hh) (bind_of (dig_eq ha) (bind_of (dig_eq hb) (bind_of h1 rfl)))
theorem awake10 : law10_awake = some true := by
  unfold law10_awake
  generalize h1 : ([u8of 1] ++ List.replicate (32 - 1) 0 : List UInt8) = d1
  generalize h2 : ([u8of 2] ++ List.replicate (32 - 1) 0 : List UInt8) = d2
  generalize h3 : ([u8of 3] ++ List.replicate (32 - 1) 0 : List UInt8) = d3
  have l1 : d1.length = 32 := by rw [← h1]; rfl
  have l2 : d2.length = 32 := by rw [← h2]; rfl
  have l3 : d3.length = 32 := by rw [← h3]; rfl
  clear h1 h2 h3
  obtain ⟨L1, a1, _⟩ := new_eq none l1
  obtain ⟨L2, a2, _⟩ := claim_eq L1 (home := 1) (by omega) l2 l3
  obtain ⟨L3, a3, _⟩ := sign0 L2 (d := claim 1 d2 d3) l1
  obtain ⟨L4, a4, _⟩ := root_eq L3 (s := ⟨d1, 0, leaves d1⟩) (leaves_len l1).1 (leaves_len l1).2
  obtain ⟨L5, a5, _⟩ := claim_eq L4 (home := 1) (by omega) l2 l3
  obtain ⟨L6, a6, _⟩ := verify0 L5 (d := claim 1 d2 d3) l1
  obtain ⟨L7, a7, _⟩ := root_eq L6 (s := ⟨d1, 0, leaves d1⟩) (leaves_len l1).1 (leaves_len l1).2
  obtain ⟨L8, a8, _⟩ := claim_eq L7 (home := 0) (a := List.replicate 32 0) (b := List.replicate 32 0) (by omega) (by simp) (by simp)
  have hs : update_Sign L1 ⟨d1, 0, leaves d1⟩ 1 d2 d3 = some (⟨d1, 1, leaves d1⟩, ⟨1, d2, d3, ⟨0, sgP d1 0 (claim 1 d2 d3), sgO d1 0 (claim 1 d2 d3), path0 (leaves d1)⟩⟩, 0, L3) := by
    unfold update_Sign
    refine bind_of a2 (bind_of a3 ?_)
    rw [if_neg (by simp)]
  have hr : update_Right L4 (rootL (leaves d1)) ⟨1, d2, d3, ⟨0, sgP d1 0 (claim 1 d2 d3), sgO d1 0 (claim 1 d2 d3), path0 (leaves d1)⟩⟩ = some (true, L6) := by
    unfold update_Right
    exact bind_of a5 (bind_of a6 rfl)
  have hz : update_Right L7 (rootL (leaves d1)) (S_api_Update.mk (0 : Int) (List.replicate 32 0) (List.replicate 32 0) (S_api_Sig.mk (0 : Int) [] [] [])) = some (false, L8) := by
    unfold update_Right
    refine bind_of a8 (bind_of (x := (false, L8)) ?_ rfl)
    unfold keys_Verify
    rw [if_neg (by simp), if_neg (by simp)]
    unfold keys_Verify.j1
    rw [if_pos (by simp)]
  refine bind_of a1 ?_
  refine bind_of hs ?_
  rw [if_pos (by simp)]
  refine bind_of a4 ?_
  refine bind_of hr ?_
  rw [if_pos rfl]
  refine bind_of a7 ?_
  refine bind_of hz ?_
  rfl
end Go.Proofs.YtamnmljgcmbliaaDoor
