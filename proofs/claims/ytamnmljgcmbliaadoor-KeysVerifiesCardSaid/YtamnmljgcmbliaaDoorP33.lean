/- Plain law of KeysVerifies: each of a signer's signatures is verified under its root; behind sixteen none is made. -/
import Derived.Test.YtamnmljgcmbliaaDoorP31
import Derived.Test.YtamnmljgcmbliaaDoorP32
import Derived.Test.YtamnmljgcmbliaaDoorP33t
namespace Go.Proofs.YtamnmljgcmbliaaDoor
open Go Go.RowKit Go.Proofs
set_option linter.unusedVariables false

theorem same6 (s : S_keys_Signer) (hl : s.f_Leaves.length < 1000000) : law06_same s (S_ref06_Signer.mk s.f_Seed s.f_Next s.f_Leaves) = some true := by
  unfold law06_same law06_same.j1
  rw [if_pos (by simp), if_pos (by simp)]
  exact bind_of (sameL s.f_Leaves s.f_Leaves hl) (by simp)
theorem keysVerifies_true (seed : List UInt8) (ds : List (List UInt8)) (hs : seed.length = 32) (hd : ∀ d ∈ ds, d.length = 32) : law06_KeysVerifies seed ds = some true := by
  unfold law06_KeysVerifies
  refine bind_of awake6 ?_
  rw [if_neg (by simp)]
  by_cases h20 : 20 < ds.length
  · rw [if_pos (by simp; omega)]
    exact bind_of awake6 rfl
  rw [if_neg (by simp; omega)]
  obtain ⟨hl, h32⟩ := leaves_len hs
  obtain ⟨L1, a1, b1⟩ := new_eq none hs
  obtain ⟨L2, a2, b2⟩ := root_eq L1 (s := ⟨seed, 0, leaves seed⟩) hl h32
  refine bind_of a1 (bind_of a2 ?_)
  obtain ⟨c, h1, h2⟩ := loop_ok (body := fun s : Int × S_keys_Signer × (Option O_Log) => law06_KeysVerifies.b1 ds (rootL (leaves seed), L2) s.1 s.2.1 s.2.2)
    (fun s => ∃ (i n : Nat) (lg : Option O_Log), i ≤ ds.length ∧ n = min i 16 ∧ s = ((i : Int), ⟨seed, (n : Int), leaves seed⟩, lg))
    (fun c => match c with | .next _ => True | .ret _ => False) (fun s => (ds.length - s.1).toNat)
    (fun s ⟨i, n, lg, hi, hn, hs'⟩ => by
      subst hs'
      by_cases hlt : i < ds.length
      · refine .inl ?_
        have e0 := getD_nat ds i hlt
        generalize hdd : ds[i] = d at e0
        have hd32 : d.length = 32 := by rw [← hdd]; exact hd _ (List.getElem_mem hlt)
        show ∃ s', law06_KeysVerifies.b1 ds (rootL (leaves seed), L2) (i : Int) ⟨seed, (n : Int), leaves seed⟩ lg = some (.cont s') ∧ _
        unfold law06_KeysVerifies.b1
        rw [if_pos (by simp; omega), if_pos (by omega), e0]
        by_cases h16 : 16 ≤ i
        · have hn16 : n = 16 := by omega
          subst hn16
          have a3 := signer_spent lg (s := ⟨seed, ((16 : Nat) : Int), leaves seed⟩) (by simp) d
          refine ⟨(((i + 1 : Nat) : Int), ⟨seed, ((16 : Nat) : Int), leaves seed⟩, lg), ?_, ⟨i + 1, 16, lg, by omega, by omega, rfl⟩, by simp; omega⟩
          refine bind_of a3 ?_
          rw [if_pos (by simp; omega), if_neg (by simp)]
          refine bind_of (same6 ⟨seed, ((16 : Nat) : Int), leaves seed⟩ (by show (leaves seed).length < _; omega)) ?_
          unfold law06_KeysVerifies.j1
          rw [if_neg (by simp), w64 (by omega)]
          rfl
        · have hni : n = i := by omega
          subst hni
          obtain ⟨L3, a3, _⟩ := signer_eq lg (s := ⟨seed, (n : Int), leaves seed⟩) hs hl h32 (i := n) (by omega) rfl d
          obtain ⟨L4, a4, _⟩ := again_eq L3 (s := ⟨seed, (n : Int), leaves seed⟩) hs hl h32 (i := n) (by omega) d
          obtain ⟨L5, a5, _⟩ := verify_eq L4 (rootL (leaves seed)) d (sigV_32 hs hl h32 (i := n) (by omega) d)
          rw [verV_sig hs (by omega) d] at a5
          obtain ⟨L6, a6, _⟩ := root_eq L5 (s := ⟨seed, (n : Int) + 1, leaves seed⟩) hl h32
          have hsig : (sigV seed (leaves seed) n d).f_Parts.length < 1000000 ∧ (sigV seed (leaves seed) n d).f_Others.length < 1000000 ∧ (sigV seed (leaves seed) n d).f_Path.length < 1000000 := by
            simp [sigV, (sgP_len hs (n : Int) d).1, (sgO_len hs (n : Int) d).1, pathL]
          refine ⟨(((n + 1 : Nat) : Int), ⟨seed, ((n + 1 : Nat) : Int), leaves seed⟩, L6), ?_, ⟨n + 1, n + 1, L6, by omega, by omega, rfl⟩, by simp; omega⟩
          refine bind_of a3 ?_
          rw [if_neg (by simp; omega)]
          refine bind_of a4 ?_
          rw [if_neg (by simp), if_neg (by simp), if_neg (by simp [sigV]), w64 (by omega), if_neg (by simp)]
          refine bind_of a5 ?_
          rw [if_neg (by simp)]
          refine bind_of (sameS _ _ hsig) ?_
          rw [sigEq_self, if_neg (by simp)]
          refine bind_of a6 ?_
          unfold law06_KeysVerifies.j2
          rw [if_neg (by simp), w64 (by omega)]
          rfl
      · refine .inr (.inl ⟨((i : Int), ⟨seed, (n : Int), leaves seed⟩, lg), ?_, trivial⟩)
        show law06_KeysVerifies.b1 ds (rootL (leaves seed), L2) (i : Int) ⟨seed, (n : Int), leaves seed⟩ lg = _
        unfold law06_KeysVerifies.b1
        rw [if_neg (by simp; omega)]) (((ds.length : Int) - 0 : Int).toNat + 2) (0, ⟨seed, 0, leaves seed⟩, L2) ⟨0, 0, L2, by omega, by simp, rfl⟩ (by simp)
  cases c with
  | ret r => exact h2.elim
  | next s =>
    obtain ⟨x, y, z⟩ := s
    exact bind_next h1 (bind_of awake6 rfl)
end Go.Proofs.YtamnmljgcmbliaaDoor
