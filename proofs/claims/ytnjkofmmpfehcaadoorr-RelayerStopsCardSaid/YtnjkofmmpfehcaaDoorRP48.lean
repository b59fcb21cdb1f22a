/- Plain laws of the relayer's step; RelayerStops. -/
import Derived.Test.YtnjkofmmpfehcaaDoorRP47
namespace Go.Proofs.YtnjkofmmpfehcaaDoorR
open Go Go.RowKit Go.Proofs
set_option linter.unusedVariables false

noncomputable def fitOf (home : Int) (disk : List UInt8) (l : List S_api_Update) (c : S_api_Replica) : Int := fitsV (noteV disk 2 home).f_Next.toNat c l
/-- What a step writes down. -/
noncomputable def noteN (home : Int) (disk : List UInt8) (l : List S_api_Update) (i : Int) : S_notes_Note :=
  ⟨2, home, i, (l.getD i.toNat default).f_Old, (l.getD i.toNat default).f_New, min (if (noteV disk 2 home).f_New = (l.getD i.toNat default).f_New then (noteV disk 2 home).f_Sent else 0) 999999 + 1⟩
def stopped (c : S_api_Replica) (i cut : Int) : Prop := c.f_Failed = true ∨ c.f_Cut = true ∨ i < 0 ∨ cut = 0
theorem step_stop (home : Int) (disk : List UInt8) (l : List S_api_Update) (c : S_api_Replica) (cut : Int) (hl : l.length ≤ 1000) (hh : 0 ≤ home ∧ home < 4294967296) (h : stopped c (fitOf home disk l c) cut) : relayer_Step ⟨home, disk⟩ l c cut = some (⟨home, disk⟩, []) := by
  have hj : relayer_Step.j1 ⟨home, disk⟩ l cut (fitOf home disk l c) true = some (⟨home, disk⟩, []) := by
    unfold relayer_Step.j1
    rw [if_pos rfl]
  unfold relayer_Step
  refine bind_of (fits_eq home disk l c hl hh) ?_
  show (if c.f_Failed = true then relayer_Step.j1 ⟨home, disk⟩ l cut (fitOf home disk l c) true else (if c.f_Cut = true then relayer_Step.j1 ⟨home, disk⟩ l cut (fitOf home disk l c) true else (if (decide (fitOf home disk l c < (0 : Int))) = true then relayer_Step.j1 ⟨home, disk⟩ l cut (fitOf home disk l c) true else relayer_Step.j1 ⟨home, disk⟩ l cut (fitOf home disk l c) (decide (cut = (0 : Int)))))) = _
  by_cases h1 : c.f_Failed = true
  · rw [if_pos h1]; exact hj
  · rw [if_neg h1]
    by_cases h2 : c.f_Cut = true
    · rw [if_pos h2]; exact hj
    · rw [if_neg h2]
      by_cases h3 : fitOf home disk l c < 0
      · rw [if_pos (decide_eq_true h3)]; exact hj
      · rw [if_neg (by rw [decide_eq_false h3]; decide)]
        rcases h with h | h | h | h
        · exact absurd h h1
        · exact absurd h h2
        · exact absurd h h3
        · rw [decide_eq_true h]; exact hj
theorem clone_eq (l : List (List UInt8)) (h : l.length ≤ 4000000000000) : slices_Clone_api_Digest l = some l := by
  unfold slices_Clone_api_Digest
  rw [if_pos (by omega)]
theorem noteN_ok {home : Int} {disk : List UInt8} {l : List S_api_Update} {i : Int} (hh : 0 ≤ home ∧ home < 4294967296) (hi : 0 ≤ i ∧ i < l.length) (hl : l.length ≤ 1000) (h32 : ∀ u ∈ l, u.f_Old.length = 32 ∧ u.f_New.length = 32) : NtOk (noteN home disk l i) := by
  obtain ⟨_, _, _, _, _, hs⟩ := noteV_ok disk (k := 2) (by omega) hh
  obtain ⟨n, rfl⟩ := Int.eq_ofNat_of_zero_le hi.1
  have e1 : ((n : Nat) : Int).toNat = n := by omega
  have e2 : l.getD n default = l[n]'(by omega) := by simp [List.getD, show n < l.length by omega]
  have hu := h32 (l[n]'(by omega)) (List.getElem_mem _)
  refine ⟨⟨by simp only [noteN]; omega, by simp only [noteN]; omega⟩, hh, ⟨by simp only [noteN]; omega, by simp only [noteN]; omega⟩, ?_, ?_, ⟨?_, ?_⟩⟩
  · simp only [noteN, e1, e2]; exact hu.1
  · simp only [noteN, e1, e2]; exact hu.2
  · simp only [noteN]; split <;> omega
  · simp only [noteN]; split <;> omega
theorem step_go (home : Int) (disk : List UInt8) (l : List S_api_Update) (c : S_api_Replica) (cut : Int) (hl : l.length ≤ 1000) (hh : 0 ≤ home ∧ home < 4294967296) (h32 : ∀ u ∈ l, u.f_Old.length = 32 ∧ u.f_New.length = 32)
    (hsm : ∀ u ∈ l, u.f_Sig.f_Parts.length ≤ 4000000000000 ∧ u.f_Sig.f_Others.length ≤ 4000000000000 ∧ u.f_Sig.f_Path.length ≤ 4000000000000) (h : ¬ stopped c (fitOf home disk l c) cut) :
    relayer_Step ⟨home, disk⟩ l c cut = some (⟨home, noteB (noteN home disk l (fitOf home disk l c))⟩, if cut = 1 then [] else [l.getD (fitOf home disk l c).toNat default]) := by
  have hr : -1 ≤ fitOf home disk l c ∧ fitOf home disk l c < l.length := fitsV_range _ _ _
  obtain ⟨_, _, _, _, _, hs⟩ := noteV_ok disk (k := 2) (by omega) hh
  have hkh := noteV_kh disk (k := 2) (home := home)
  unfold stopped at h
  have h1 : ¬ c.f_Failed = true := fun q => h (.inl q)
  have h2 : ¬ c.f_Cut = true := fun q => h (.inr (.inl q))
  have h3 : ¬ fitOf home disk l c < 0 := fun q => h (.inr (.inr (.inl q)))
  have h4 : ¬ cut = 0 := fun q => h (.inr (.inr (.inr q)))
  have hN := noteN_ok (disk := disk) hh ⟨by omega, hr.2⟩ hl h32
  unfold relayer_Step
  refine bind_of (fits_eq home disk l c hl hh) ?_
  show (if c.f_Failed = true then relayer_Step.j1 ⟨home, disk⟩ l cut (fitOf home disk l c) true else (if c.f_Cut = true then relayer_Step.j1 ⟨home, disk⟩ l cut (fitOf home disk l c) true else (if (decide (fitOf home disk l c < (0 : Int))) = true then relayer_Step.j1 ⟨home, disk⟩ l cut (fitOf home disk l c) true else relayer_Step.j1 ⟨home, disk⟩ l cut (fitOf home disk l c) (decide (cut = (0 : Int)))))) = _
  rw [if_neg h1, if_neg h2, if_neg (by rw [decide_eq_false h3]; decide), decide_eq_false h4]
  generalize fitOf home disk l c = i at hr h3 hN
  have key : ∀ n : S_notes_Note, n.f_Kind = 2 → n.f_Home = home → (0 ≤ n.f_Sent ∧ n.f_Sent < 18446744073709551616) → min (if (noteV disk 2 home).f_New = (l.getD i.toNat default).f_New then (noteV disk 2 home).f_Sent else 0) 999999 = min n.f_Sent 999999 →
      relayer_Step.j2 ⟨home, disk⟩ l cut i n = some (⟨home, noteB (noteN home disk l i)⟩, if cut = 1 then [] else [l.getD i.toNat default]) := by
    intro n k1 k2 k3 k4
    have hmem : l.getD i.toNat default ∈ l := by
      have : l.getD i.toNat default = l[i.toNat]'(by omega) := by simp [List.getD, show i.toNat < l.length by omega]
      rw [this]; exact List.getElem_mem _
    obtain ⟨s1, s2, s3⟩ := hsm _ hmem
    unfold relayer_Step.j2
    rw [if_pos (by omega)]
    have e1 : IntKind.wrap .u64 i = i := wu64 (by omega)
    have e2 : IntKind.wrap .u64 ((if (999999 : Int) < n.f_Sent then (999999 : Int) else n.f_Sent) + 1) = min n.f_Sent 999999 + 1 := by
      rw [wu64 (by split <;> omega)]
      split <;> omega
    have e3 : (⟨n.f_Kind, n.f_Home, IntKind.wrap .u64 i, (l.getD i.toNat default).f_Old, (l.getD i.toNat default).f_New, IntKind.wrap .u64 ((if (999999 : Int) < n.f_Sent then (999999 : Int) else n.f_Sent) + 1)⟩ : S_notes_Note) = noteN home disk l i := by
      rw [e1, e2, k1, k2, ← k4]; rfl
    rw [e3]
    refine bind_of (noteB_eq hN) ?_
    by_cases hc : cut = 1
    · rw [if_pos (decide_eq_true hc), if_pos hc]
    · rw [if_neg (by rw [decide_eq_false hc]; decide), if_neg hc, if_pos (by omega)]
      exact bind_of (clone_eq _ s1) (bind_of (clone_eq _ s2) (bind_of (clone_eq _ s3) rfl))
  unfold relayer_Step.j1
  rw [if_neg (by decide)]
  refine bind_of (x := noteV disk 2 home) (by unfold relayer_Note; exact bind_of (Read_eq disk 2 home) rfl) ?_
  rw [if_pos (by omega)]
  by_cases q : (noteV disk 2 home).f_New = (l.getD i.toNat default).f_New
  · rw [if_neg (by simp only [Bool.not_eq_true', decide_eq_false_iff_not]; exact fun w => w q)]
    exact key _ hkh.1 hkh.2 hs (by rw [if_pos q])
  · rw [if_pos (by simp only [Bool.not_eq_true', decide_eq_false_iff_not]; exact q)]
    exact key _ hkh.1 hkh.2 ⟨by simp only; omega, by simp only; omega⟩ (by rw [if_neg q])
theorem fresh_note (home : Int) : noteV [] 2 home = ⟨2, home, 0, List.replicate 32 0, List.replicate 32 0, 0⟩ := by
  have : ¬ enN (rdE []) = 0 := by decide
  unfold noteV
  rw [if_neg (fun q => this q.1.1)]
theorem awake23 : law23_awake = some true := by
  unfold law23_awake
  generalize hd : ([u8of 1] ++ List.replicate (32 - 1) 0 : List UInt8) = d
  have l1 : d.length = 32 := by rw [← hd]; rfl
  have hne : ¬ d = List.replicate 32 0 := by rw [← hd]; decide
  clear hd
  have hz : (List.replicate 32 0 : List UInt8).length = 32 := by simp
  generalize (List.replicate 32 0 : List UInt8) = z at hne hz ⊢
  have h0 : fitOf 1 [] [] ⟨0, 0, z, [], 0, z, [], [], false, false⟩ = -1 := rfl
  have hf1 : fitP ⟨0, 0, z, [], 0, z, [], [], false, false⟩ ⟨0, z, d, ⟨0, [], [], []⟩⟩ = true := by simp [fitP, hne]
  have h1 : fitOf 1 [] [⟨0, z, d, ⟨0, [], [], []⟩⟩] ⟨0, 0, z, [], 0, z, [], [], false, false⟩ = 0 := by
    unfold fitOf fitsV
    rw [fresh_note 1]
    have e : ff (fun i => fitP ⟨0, 0, z, [], 0, z, [], [], false, false⟩ (([⟨0, z, d, ⟨0, [], [], []⟩⟩] : List S_api_Update).getD i default) && decide ((0 : Int).toNat ≤ i)) 1 = 0 := by
      rw [ff_succ]
      show (if 0 ≤ (-1 : Int) then (-1 : Int) else if (fitP ⟨0, 0, z, [], 0, z, [], [], false, false⟩ ⟨0, z, d, ⟨0, [], [], []⟩⟩ && decide ((0 : Int).toNat ≤ 0)) = true then ((0 : Nat) : Int) else -1) = 0
      rw [hf1]
      rfl
    show (if 0 ≤ ff (fun i => fitP ⟨0, 0, z, [], 0, z, [], [], false, false⟩ (([⟨0, z, d, ⟨0, [], [], []⟩⟩] : List S_api_Update).getD i default) && decide ((0 : Int).toNat ≤ i)) 1 then _ else _) = (0 : Int)
    rw [e, if_pos (by decide)]
    exact e
  have s1 := step_stop 1 [] [] ⟨0, 0, z, [], 0, z, [], [], false, false⟩ (-1) (by simp) (by omega) (.inr (.inr (.inl (by rw [h0]; decide))))
  have s2 := step_go 1 [] [⟨0, z, d, ⟨0, [], [], []⟩⟩] ⟨0, 0, z, [], 0, z, [], [], false, false⟩ (-1) (by simp) (by omega) (fun u hu => by rw [List.mem_singleton.1 hu]; exact ⟨hz, l1⟩) (fun u hu => by rw [List.mem_singleton.1 hu]; simp) (by
    rw [h1]; unfold stopped; simp)
  rw [h1] at s2
  have hN := noteN_ok (home := 1) (disk := []) (l := [⟨0, z, d, ⟨0, [], [], []⟩⟩]) (i := 0) (by omega) (by simp) (by simp) (fun u hu => by rw [List.mem_singleton.1 hu]; exact ⟨hz, l1⟩)
  refine bind_of (x := (⟨1, []⟩ : S_relayer_Relayer)) rfl (bind_of s1 (bind_of (x := (⟨1, []⟩ : S_relayer_Relayer)) rfl (bind_of s2 ?_)))
  rw [if_pos (by rfl), if_pos (by rfl)]
  have hb := noteV_noteB hN
  refine bind_of (x := noteN 1 [] [⟨0, z, d, ⟨0, [], [], []⟩⟩] 0) ?_ ?_
  · unfold relayer_Note
    exact bind_of ((Read_eq _ 2 1).trans (congrArg some hb)) rfl
  · unfold law23_awake.j1
    have : (noteN 1 [] [⟨0, z, d, ⟨0, [], [], []⟩⟩] 0).f_Sent = 1 := by
      simp only [noteN, fresh_note]
      split <;> rfl
    rw [this]
    rfl
theorem inr23 {x : Int} (h : InR .u32 x) : 0 ≤ x ∧ x < 4294967296 := by
  have h1 := h.1
  have h2 := h.2
  simp [IntKind.min, IntKind.max, IntKind.bits, IntKind.signed] at h1 h2
  omega
theorem relayerStops_true (home : Int) (disk : List UInt8) (l : List S_api_Update) (c : S_api_Replica) (failed : Bool) (cut : Int) (hh : 0 ≤ home ∧ home < 4294967296) : law23_RelayerStops home disk l c failed cut = some true := by
  have hj : law23_RelayerStops.j1 home disk l c failed cut true = some true := by
    unfold law23_RelayerStops.j1
    rw [if_pos rfl]
  unfold law23_RelayerStops
  refine bind_of awake23 ?_
  rw [if_neg (by decide)]
  by_cases h : 30 < l.length
  · rw [if_pos (by simp; omega)]; exact hj
  · rw [if_neg (by simp; omega)]
    by_cases h2 : 2000 < disk.length
    · rw [show decide ((2000 : Int) < (disk.length : Int)) = true by simp; omega]; exact hj
    · rw [show decide ((2000 : Int) < (disk.length : Int)) = false by simp; omega]
      unfold law23_RelayerStops.j1
      rw [if_neg (by decide)]
      have fin : ∀ c' : S_api_Replica, (c'.f_Failed = true ∨ c'.f_Cut = true) → law23_RelayerStops.j2 home disk l cut c' = some true := by
        intro c' hc
        unfold law23_RelayerStops.j2
        refine bind_of (step_stop home disk l c' cut (by omega) hh (hc.elim .inl (fun q => .inr (.inl q)))) ?_
        rw [if_pos (by rfl), if_pos (by simp)]
        unfold law23_RelayerStops.j3
        simp
      by_cases q : c.f_Cut = true
      · rw [if_pos q]; exact fin _ (.inr rfl)
      · rw [if_neg q]
        refine fin _ ?_
        cases failed
        · exact .inr rfl
        · exact .inl rfl
end Go.Proofs.YtnjkofmmpfehcaaDoorR
