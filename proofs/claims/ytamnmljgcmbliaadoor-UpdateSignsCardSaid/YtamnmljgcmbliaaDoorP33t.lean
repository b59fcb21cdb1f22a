/- Plain laws: P32, P33s, P33t, as one text. -/
import Derived.Test.YtamnmljgcmbliaaDoorP23a
import Derived.Test.YtamnmljgcmbliaaDoorP23a
import Derived.Test.YtamnmljgcmbliaaDoorP7
namespace Go.Proofs.YtamnmljgcmbliaaDoor
open Go Go.RowKit Go.Proofs
section
set_option linter.unusedVariables false

/-- The neighbour of a place. -/
def sib (n : Nat) : Nat := if n % 2 = 1 then n - 1 else n + 1
theorem sib_lt {n m : Nat} (h : n < 2 * m) : sib n < 2 * m := by unfold sib; split <;> omega
theorem xor1 (n : Nat) (h : n < 16) : bits .xor .i64 (n : Int) 1 = ((sib n : Nat) : Int) := by
  have : ∀ n : Fin 16, bits .xor .i64 ((n.val : Nat) : Int) 1 = ((sib n.val : Nat) : Int) := by decide
  exact this ⟨n, h⟩
noncomputable def pathL (l : List (List UInt8)) (i : Nat) : List (List UInt8) := [l.getD (sib i) default, (upL l).getD (sib (i / 2)) default, (upL (upL l)).getD (sib (i / 2 / 2)) default, (upL (upL (upL l))).getD (sib (i / 2 / 2 / 2)) default]
theorem half_i (n : Nat) (h : n < 16) : IntKind.wrap .i64 ((n : Int).tdiv 2) = ((n / 2 : Nat) : Int) := by
  rw [Int.tdiv_eq_ediv_of_nonneg (by omega), w64 (by omega)]
  omega
theorem pathI_eq (L : Option O_Log) {s : S_keys_Signer} (hl : s.f_Leaves.length = 16) (h : ∀ p ∈ s.f_Leaves, p.length = 32) {i : Nat} (hi : i < 16) : ∃ L', keys_Signer_path s L (i : Int) = some (pathL s.f_Leaves i, L') ∧ (L = none → L' = none) := by
  obtain ⟨n1, h1, n2, h2, n3, h3, n4, h4⟩ := levels hl h
  obtain ⟨L1, a1, b1⟩ := up_eq L (by omega) h
  obtain ⟨L2, a2, b2⟩ := up_eq L1 (by omega) h1
  obtain ⟨L3, a3, b3⟩ := up_eq L2 (by omega) h2
  obtain ⟨L4, a4, b4⟩ := up_eq L3 (by omega) h3
  refine ⟨L4, ?_, fun e => b4 (b3 (b2 (b1 e)))⟩
  have st : ∀ (n m : Nat) (x : List (List UInt8)) (lg lg' : Option O_Log) (w : List (List UInt8)), n < 16 → n < 2 * m → 0 < m → x.length = 2 * m → w.length < 100 → keys_up lg x = some (upL x, lg') → keys_Signer_path.b1 (n : Int) x lg w = some (.cont (((n / 2 : Nat) : Int), upL x, lg', w ++ [x.getD (sib n) default])) := by
    intro n m x lg lg' w hn hnm hm hx1 hw hu
    have hs := sib_lt hnm
    have e1 : ((sib n : Nat) : Int).toNat = sib n := by omega
    unfold keys_Signer_path.b1
    rw [xor1 n hn, half_i n hn, if_pos (by simp; omega), if_pos (by omega), if_pos (by simp [mxl]; omega), e1]
    exact bind_of hu rfl
  have en : ∀ (n : Int) (x : List (List UInt8)) (lg : Option O_Log) (w : List (List UInt8)), x.length = 1 → keys_Signer_path.b1 n x lg w = some (.brk (n, x, lg, w)) := by
    intro n x lg w hx1
    unfold keys_Signer_path.b1
    rw [if_neg (by simp; omega)]
  have s1 := st i 8 s.f_Leaves L L1 [] (by omega) (by omega) (by omega) (by omega) (by simp) a1
  have s2 := st (i / 2) 4 _ L1 L2 ([] ++ [s.f_Leaves.getD (sib i) default]) (by omega) (by omega) (by omega) (by omega) (by simp) a2
  have s3 := st (i / 2 / 2) 2 _ L2 L3 (([] ++ [s.f_Leaves.getD (sib i) default]) ++ [(upL s.f_Leaves).getD (sib (i / 2)) default]) (by omega) (by omega) (by omega) (by omega) (by simp) a3
  have s4 := st (i / 2 / 2 / 2) 1 _ L3 L4 ((([] ++ [s.f_Leaves.getD (sib i) default]) ++ [(upL s.f_Leaves).getD (sib (i / 2)) default]) ++ [(upL (upL s.f_Leaves)).getD (sib (i / 2 / 2)) default]) (by omega) (by omega) (by omega) (by omega) (by simp) a4
  unfold keys_Signer_path
  have hf : ((s.f_Leaves.length : Int) - 1 : Int).toNat + 2 = 17 := by omega
  rw [hf]
  refine bind_next (lc (body := fun s : Int × (List (List UInt8)) × (Option O_Log) × (List (List UInt8)) => keys_Signer_path.b1 s.1 s.2.1 s.2.2.1 s.2.2.2) 16 s1 (lc 15 s2 (lc 14 s3 (lc 13 s4 (lb_ 12 (en _ _ _ _ n4)))))) ?_
  rfl
/-- What a key signs. -/
noncomputable def sigV (seed : List UInt8) (ls : List (List UInt8)) (i : Nat) (d : List UInt8) : S_api_Sig := ⟨(i : Int), sgP seed (i : Int) d, sgO seed (i : Int) d, pathL ls i⟩
theorem again_eq (L : Option O_Log) {s : S_keys_Signer} (hs : s.f_Seed.length = 32) (hl : s.f_Leaves.length = 16) (h : ∀ p ∈ s.f_Leaves, p.length = 32) {i : Nat} (hi : i < 16) (d : List UInt8) : ∃ L', keys_Signer_Again s L (i : Int) d = some (sigV s.f_Seed s.f_Leaves i d, 0, L') ∧ (L = none → L' = none) := by
  obtain ⟨L1, a1, b1⟩ := sign_eq L hs (i : Int) d
  obtain ⟨L2, a2, b2⟩ := pathI_eq L1 hl h hi
  refine ⟨L2, ?_, fun e => b2 (b1 e)⟩
  unfold keys_Signer_Again
  rw [if_neg (by simp [hl]), if_neg (by simp <;> omega)]
  unfold keys_Signer_Again.j1
  rw [if_neg (by simp <;> omega)]
  exact bind_of a1 (bind_of a2 rfl)
theorem again_no (L : Option O_Log) {s : S_keys_Signer} {i : Int} (h : ¬(s.f_Leaves.length = 16 ∧ 0 ≤ i ∧ i < 16)) (d : List UInt8) : keys_Signer_Again s L i d = some (⟨0, [], [], []⟩, 2, L) := by
  unfold keys_Signer_Again
  by_cases h1 : s.f_Leaves.length = 16
  · rw [if_neg (by simp [h1])]
    by_cases h2 : i < 0
    · rw [if_pos (by simp [h2])]
      unfold keys_Signer_Again.j1
      rw [if_pos rfl]
    · rw [if_neg (by simp; omega)]
      unfold keys_Signer_Again.j1
      rw [if_pos (by simp; omega)]
  · rw [if_pos (by simp; omega)]
    unfold keys_Signer_Again.j1
    rw [if_pos rfl]
theorem signer_eq (L : Option O_Log) {s : S_keys_Signer} (hs : s.f_Seed.length = 32) (hl : s.f_Leaves.length = 16) (h : ∀ p ∈ s.f_Leaves, p.length = 32) {i : Nat} (hi : i < 16) (hn : s.f_Next = (i : Int)) (d : List UInt8) : ∃ L', keys_Signer_Sign s L d = some (⟨s.f_Seed, (i : Int) + 1, s.f_Leaves⟩, sigV s.f_Seed s.f_Leaves i d, 0, L') ∧ (L = none → L' = none) := by
  obtain ⟨L1, a1, b1⟩ := again_eq L hs hl h hi d
  have hc : slices_Clone_api_Digest s.f_Leaves = some s.f_Leaves := by
    unfold slices_Clone_api_Digest
    rw [if_pos (by omega)]
  refine ⟨L1, ?_, b1⟩
  unfold keys_Signer_Sign
  rw [hn, if_neg (by simp <;> omega)]
  unfold keys_Signer_Sign.j1
  rw [if_neg (by simp <;> omega), hn]
  refine bind_of a1 ?_
  rw [if_neg (by simp)]
  refine bind_of hc ?_
  rw [w64 (by omega)]
theorem signer_spent (L : Option O_Log) {s : S_keys_Signer} (h : ¬(0 ≤ s.f_Next ∧ s.f_Next < 16)) (d : List UInt8) : keys_Signer_Sign s L d = some (s, ⟨0, [], [], []⟩, 22, L) := by
  unfold keys_Signer_Sign
  by_cases h1 : s.f_Next < 0
  · rw [if_pos (by simp [h1])]
    unfold keys_Signer_Sign.j1
    rw [if_pos rfl]
  · rw [if_neg (by simp; omega)]
    unfold keys_Signer_Sign.j1
    rw [if_pos (by simp; omega)]
theorem signer_arg (L : Option O_Log) {s : S_keys_Signer} (h : 0 ≤ s.f_Next ∧ s.f_Next < 16) (hl : s.f_Leaves.length ≠ 16) (d : List UInt8) : keys_Signer_Sign s L d = some (s, ⟨0, [], [], []⟩, 2, L) := by
  unfold keys_Signer_Sign
  rw [if_neg (by simp; omega)]
  unfold keys_Signer_Sign.j1
  rw [if_neg (by simp; omega)]
  refine bind_of (again_no L (fun q => hl q.1) d) ?_
  rw [if_pos (by simp)]
end

section
set_option linter.unusedVariables false

theorem getD_nat {α : Type} [Inhabited α] (l : List α) (i : Nat) (h : i < l.length) : l.getD (i : Int).toNat default = l[i] := by simp [List.getD, h]
theorem sameL (a b : List (List UInt8)) (hl : a.length < 1000000) : ref03_SameList a b = some (decide (a = b)) := by
  unfold ref03_SameList
  by_cases hab : a.length = b.length
  · rw [if_neg (by simp [hab])]
    obtain ⟨c, h1, h2⟩ := loop_ok (body := fun s : Int => ref03_SameList.b1 a b s) (fun s => ∃ i : Nat, i ≤ a.length ∧ s = (i : Int) ∧ ∀ j, j < i → a[j]? = b[j]?)
      (fun c => match c with | .next _ => a = b | .ret r => r = false ∧ a ≠ b) (fun s => (a.length - s).toNat)
      (fun s ⟨i, hi, hs, hj⟩ => by
        subst hs
        by_cases h : i < a.length
        · have e1 := getD_nat a i h
          have e2 := getD_nat b i (by omega)
          by_cases he : a[i] = b[i]'(by omega)
          · refine .inl ⟨((i + 1 : Nat) : Int), ?_, ⟨i + 1, by omega, rfl, fun j hj' => ?_⟩, by simp; omega⟩
            · unfold ref03_SameList.b1
              rw [if_pos (by simp; omega), if_pos (by omega), if_pos (by omega), e1, e2, if_neg (by simp [he]), w64 (by omega)]
              rfl
            · by_cases e : j = i
              · subst e; simp [h, show j < b.length by omega, he]
              · exact hj j (by omega)
          · refine .inr (.inr ⟨false, ?_, rfl, fun e => he (by subst e; rfl)⟩)
            unfold ref03_SameList.b1
            rw [if_pos (by simp; omega), if_pos (by omega), if_pos (by omega), e1, e2, if_pos (by simp [he])]
        · have : i = a.length := by omega
          subst this
          refine .inr (.inl ⟨((a.length : Nat) : Int), ?_, ?_⟩)
          · unfold ref03_SameList.b1
            rw [if_neg (by simp)]
          · refine List.ext_getElem? fun j => ?_
            by_cases hlt : j < a.length
            · exact hj j hlt
            · rw [List.getElem?_eq_none (by omega), List.getElem?_eq_none (by omega)]) (((a.length : Int) - 0 : Int).toNat + 2) 0 ⟨0, by omega, rfl, fun j hj => by omega⟩ (by simp)
    cases c with
    | ret r =>
      obtain ⟨rfl, h2⟩ := h2
      refine bind_of h1 ?_
      simp [h2]
    | next s =>
      have h2 : a = b := h2
      refine bind_of h1 ?_
      simp [h2]
  · rw [if_pos (by simp; omega)]
    have : ¬ a = b := fun e => hab (by rw [e])
    simp [this]
end

section
set_option linter.unusedVariables false

def sigEq (a b : S_api_Sig) : Bool := decide (a.f_Index = b.f_Index) && decide (a.f_Parts = b.f_Parts) && decide (a.f_Others = b.f_Others) && decide (a.f_Path = b.f_Path)
theorem sigEq_self (a : S_api_Sig) : sigEq a a = true := by simp [sigEq]
theorem sameS (a b : S_api_Sig) (h : a.f_Parts.length < 1000000 ∧ a.f_Others.length < 1000000 ∧ a.f_Path.length < 1000000) : ref03_SameSig a b = some (sigEq a b) := by
  have e1 := sameL a.f_Parts b.f_Parts h.1
  have e2 := sameL a.f_Others b.f_Others h.2.1
  have e3 := sameL a.f_Path b.f_Path h.2.2
  unfold ref03_SameSig ref03_SameSig.j1 sigEq
  by_cases h1 : a.f_Index = b.f_Index
  · rw [if_pos (by simp [h1])]
    refine bind_of e1 ?_
    by_cases h2 : a.f_Parts = b.f_Parts
    · rw [if_pos (by simp [h2])]
      refine bind_of e2 ?_
      by_cases h3 : a.f_Others = b.f_Others
      · rw [if_pos (by simp [h3])]
        refine bind_of e3 ?_
        simp [h1, h2, h3]
      · rw [if_neg (by simp [h3])]
        simp [h3]
    · rw [if_neg (by simp [h2])]
      simp [h2]
  · rw [if_neg (by simp [h1])]
    simp [h1]
end
end Go.Proofs.YtamnmljgcmbliaaDoor
