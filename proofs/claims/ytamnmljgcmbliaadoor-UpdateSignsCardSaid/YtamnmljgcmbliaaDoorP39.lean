/- Plain law of UpdateSigns: what any signer signs. -/
import Derived.Test.YtamnmljgcmbliaaDoorP39a
import Derived.Test.YtamnmljgcmbliaaDoorP22a
import Derived.Test.YtamnmljgcmbliaaDoorP33t
import Derived.Test.YtamnmljgcmbliaaDoorP24a
namespace Go.Proofs.YtamnmljgcmbliaaDoor
open Go Go.RowKit Go.Proofs
set_option linter.unusedVariables false

theorem sgnV_small {s : S_keys_Signer} (hs : s.f_Seed.length = 32) (hl : s.f_Leaves.length ≤ 40) (d : List UInt8) : ((sgnV s d).2.1.f_Parts.length < 1000000 ∧ (sgnV s d).2.1.f_Others.length < 1000000 ∧ (sgnV s d).2.1.f_Path.length < 1000000) ∧ (sgnV s d).1.f_Leaves.length ≤ 40 := by
  unfold sgnV
  split
  · split
    · simp [sigV, (sgP_len hs _ d).1, (sgO_len hs _ d).1, pathL, hl]
    · simp [hl]
  · simp [hl]
noncomputable def updV (s : S_keys_Signer) (home : Int) (a b : List UInt8) : S_keys_Signer × S_api_Update × Int :=
  let r := sgnV s (claim home a b)
  if r.2.2 = 0 then (r.1, ⟨home, a, b, r.2.1⟩, 0) else (s, ⟨0, List.replicate 32 0, List.replicate 32 0, ⟨0, [], [], []⟩⟩, r.2.2)
noncomputable def stpV (s : S_keys_Signer) (home : Int) (a : List UInt8) (w : Int) : S_keys_Signer × S_api_Stop × Int :=
  let r := sgnV s (haltD home a w)
  if r.2.2 = 0 then (r.1, ⟨home, a, w, r.2.1⟩, 0) else (s, ⟨0, List.replicate 32 0, 0, ⟨0, [], [], []⟩⟩, r.2.2)
theorem upd_sign {s : S_keys_Signer} (hs : s.f_Seed.length = 32) (h : ∀ p ∈ s.f_Leaves, p.length = 32) {home : Int} (hh : InR .u32 home) {a b : List UInt8} (ha : a.length = 32) (hb : b.length = 32) : update_Sign none s home a b = some ((updV s home a b).1, (updV s home a b).2.1, (updV s home a b).2.2, none) := by
  obtain ⟨L1, a1, a2⟩ := claim_eq none (home := home) (inr32 hh) ha hb
  obtain rfl := a2 rfl
  unfold update_Sign updV
  refine bind_of a1 (bind_of (sign_any hs h _) ?_)
  by_cases h0 : (sgnV s (claim home a b)).2.2 = 0
  · rw [if_neg (by simp [h0])]
    simp [h0]
  · rw [if_pos (by simp [h0])]
    simp [h0]
theorem rupd_sign {s : S_keys_Signer} (hs : s.f_Seed.length = 32) (h : ∀ p ∈ s.f_Leaves, p.length = 32) (home : Int) {a b : List UInt8} (ha : a.length = 32) (hb : b.length = 32) : ref10_Sign none (rsr s) home a b = some (rsr (updV s home a b).1, (updV s home a b).2.1, (updV s home a b).2.2, none) := by
  unfold ref10_Sign updV
  refine bind_of (rclaim_none home ha hb) (bind_of (rsign_any hs h _) ?_)
  by_cases h0 : (sgnV s (claim home a b)).2.2 = 0
  · rw [if_neg (by simp [h0])]
    simp [h0]
  · rw [if_pos (by simp [h0])]
    simp [h0]
theorem stp_sign {s : S_keys_Signer} (hs : s.f_Seed.length = 32) (h : ∀ p ∈ s.f_Leaves, p.length = 32) {home : Int} (hh : InR .u32 home) {a : List UInt8} (ha : a.length = 32) (w : Int) : update_Stop none s home a w = some ((stpV s home a w).1, (stpV s home a w).2.1, (stpV s home a w).2.2, none) := by
  obtain ⟨L1, a1, a2⟩ := halt_eq none (home := home) (inr32 hh) ha w
  obtain rfl := a2 rfl
  unfold update_Stop stpV
  refine bind_of a1 (bind_of (sign_any hs h _) ?_)
  by_cases h0 : (sgnV s (haltD home a w)).2.2 = 0
  · rw [if_neg (by simp [h0])]
    simp [h0]
  · rw [if_pos (by simp [h0])]
    simp [h0]
theorem rstp_sign {s : S_keys_Signer} (hs : s.f_Seed.length = 32) (h : ∀ p ∈ s.f_Leaves, p.length = 32) (home : Int) {a : List UInt8} (ha : a.length = 32) (w : Int) : ref10_Stop none (rsr s) home a w = some (rsr (stpV s home a w).1, (stpV s home a w).2.1, (stpV s home a w).2.2, none) := by
  unfold ref10_Stop stpV
  refine bind_of (rhalt_none home ha w) (bind_of (rsign_any hs h _) ?_)
  by_cases h0 : (sgnV s (haltD home a w)).2.2 = 0
  · rw [if_neg (by simp [h0])]
    simp [h0]
  · rw [if_pos (by simp [h0])]
    simp [h0]
theorem same10 (u : S_api_Update) (h : u.f_Sig.f_Parts.length < 1000000 ∧ u.f_Sig.f_Others.length < 1000000 ∧ u.f_Sig.f_Path.length < 1000000) : ref10_Same u u = some true := by
  unfold ref10_Same ref10_Same.j1
  rw [if_pos (by simp), if_pos (by simp), if_pos (by simp)]
  refine bind_of (sameS _ _ h) ?_
  rw [sigEq_self]
theorem sameStop10 (u : S_api_Stop) (h : u.f_Sig.f_Parts.length < 1000000 ∧ u.f_Sig.f_Others.length < 1000000 ∧ u.f_Sig.f_Path.length < 1000000) : ref10_SameStop u u = some true := by
  unfold ref10_SameStop ref10_SameStop.j1
  rw [if_pos (by simp), if_pos (by simp), if_pos (by simp)]
  refine bind_of (sameS _ _ h) ?_
  rw [sigEq_self]
theorem updateSigns_true (s : S_keys_Signer) (home : Int) (a b : List UInt8) (w : Int) (hs : s.f_Seed.length = 32) (h : ∀ p ∈ s.f_Leaves, p.length = 32) (hh : InR .u32 home) (ha : a.length = 32) (hb : b.length = 32) : law10_UpdateSigns s home a b w = some true := by
  unfold law10_UpdateSigns
  refine bind_of awake10 ?_
  rw [if_neg (by simp)]
  by_cases h40 : 40 < s.f_Leaves.length
  · rw [if_pos (by simp; omega)]
    exact bind_of awake10 rfl
  rw [if_neg (by simp; omega)]
  have su := sgnV_small hs (by omega : s.f_Leaves.length ≤ 40) (claim home a b)
  have ss := sgnV_small hs (by omega : s.f_Leaves.length ≤ 40) (haltD home a w)
  have hu : ((updV s home a b).2.1.f_Sig.f_Parts.length < 1000000 ∧ (updV s home a b).2.1.f_Sig.f_Others.length < 1000000 ∧ (updV s home a b).2.1.f_Sig.f_Path.length < 1000000) ∧ (updV s home a b).1.f_Leaves.length ≤ 40 := by
    unfold updV
    dsimp only
    split
    · exact su
    · simp; omega
  have ht : ((stpV s home a w).2.1.f_Sig.f_Parts.length < 1000000 ∧ (stpV s home a w).2.1.f_Sig.f_Others.length < 1000000 ∧ (stpV s home a w).2.1.f_Sig.f_Path.length < 1000000) := by
    unfold stpV
    dsimp only
    split
    · exact ss.1
    · simp
  refine bind_of (upd_sign hs h hh ha hb) (bind_of (rupd_sign hs h home ha hb) (bind_of (stp_sign hs h hh ha w) (bind_of (rstp_sign hs h home ha w) (bind_of awake10 ?_))))
  rw [if_pos rfl, if_pos (by simp [rsr]), if_pos (by simp [rsr])]
  refine bind_of (sameL (updV s home a b).1.f_Leaves (rsr (updV s home a b).1).f_Leaves (by have := hu.2; omega)) ?_
  rw [if_pos (by simp [rsr])]
  refine bind_of (same10 _ hu.1) ?_
  rw [if_pos rfl, if_pos (by simp)]
  refine bind_of (sameStop10 _ ht) ?_
  rw [if_pos rfl]
  unfold law10_UpdateSigns.j1
  simp
end Go.Proofs.YtamnmljgcmbliaaDoor
