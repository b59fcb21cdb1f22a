/- Plain laws of keys: the path of any leaf, and what any key signs. -/
import Derived.Test.YtamnmljgcmbliaaDoorP23a
import Derived.Test.YtamnmljgcmbliaaDoorP23a
namespace Go.Proofs.YtamnmljgcmbliaaDoor
open Go Go.RowKit Go.Proofs
set_option linter.unusedVariables false

/-- The neighbour of a place. -/
def sib (n : Nat) : Nat := if n % 2 = 1 then n - 1 else n + 1
theorem sib_lt {n m : Nat} (h : n < 2 * m) : sib n < 2 * m := by unfold sib; split <;> omega
theorem xor1 (n : Nat) (h : n < 16) : bits .xor .i64 (n : Int) 1 = ((sib n : Nat) : Int) := by
  have : ∀ n : Fin 16, bits .xor .i64 ((n.val : Nat) : Int) 1 = ((sib n.val : Nat) : Int) := by decide
  exact this ⟨n, h⟩
noncomputable def pathL (l : List (List UInt8)) (i : Nat) : List (List UInt8) := [l.getD (sib i) default, (upL l).getD (sib (i / 2)) default, (upL (upL l)).getD (sib (i / 2 / 2)) default, (upL (upL (upL l))).getD (sib (i / 2 / 2 / 2)) default]
theorem pathL_len {l : List (List UInt8)} (hl : l.length = 16) (h : ∀ p ∈ l, p.length = 32) {i : Nat} (hi : i < 16) : ∀ p ∈ pathL l i, p.length = 32 := by
  obtain ⟨n1, h1, n2, h2, n3, h3, _⟩ := levels hl h
  have s0 := sib_lt (n := i) (m := 8) (by omega)
  have s1 := sib_lt (n := i / 2) (m := 4) (by omega)
  have s2 := sib_lt (n := i / 2 / 2) (m := 2) (by omega)
  have s3 := sib_lt (n := i / 2 / 2 / 2) (m := 1) (by omega)
  intro p hp
  simp only [pathL, List.mem_cons, List.not_mem_nil, or_false] at hp
  rcases hp with rfl | rfl | rfl | rfl
  · exact get32 h (by omega)
  · exact get32 h1 (by omega)
  · exact get32 h2 (by omega)
  · exact get32 h3 (by omega)
theorem half_i (n : Nat) (h : n < 16) : IntKind.wrap .i64 ((n : Int).tdiv 2) = ((n / 2 : Nat) : Int) := by
  rw [Int.tdiv_eq_ediv_of_nonneg (by omega), w64 (by omega)]
  omega
theorem pathI_eq (L : Option O_Log) {s : S_keys_Signer} (hl : s.f_Leaves.length = 16) (h : ∀ p ∈ s.f_Leaves, p.length = 32) {i : Nat} (hi : i < 16) : ∃ L', keys_Signer_path s L (i : Int) = some (pathL s.f_Leaves i, L') ∧ (L = none → L' = none) := by
  obtain ⟨n1, h1, n2, h2, n3, h3, n4, h4⟩ := levels hl h
  obtain ⟨L1, a1, b1⟩ := up_eq L (by omega) h
  obtain ⟨L2, a2, b2⟩ := up_eq L1 (by omega) h1
  obtain ⟨L3, a3, b3⟩ := up_eq L2 (by omega) h2
  obtain ⟨L4, a4, b4⟩ := up_eq L3 (by omega) h3
  refine ⟨L4, ?_, fun e => b4 (b3 (b2 (b1 e)))⟩
  have st : ∀ (n m : Nat) (x : List (List UInt8)) (lg lg' : Option O_Log) (w : List (List UInt8)), n < 16 → n < 2 * m → 0 < m → x.length = 2 * m → w.length < 100 → keys_up lg x = some (upL x, lg') → keys_Signer_path.b1 (n : Int) x lg w = some (.cont (((n / 2 : Nat) : Int), upL x, lg', w ++ [x.getD (sib n) default])) := by
    intro n m x lg lg' w hn hnm hm hx1 hw hu
    have hs := sib_lt hnm
    have e1 : ((sib n : Nat) : Int).toNat = sib n := by omega
    unfold keys_Signer_path.b1
    rw [xor1 n hn, half_i n hn, if_pos (by simp; omega), if_pos (by omega), if_pos (by simp [mxl]; omega), e1]
    exact bind_of hu rfl
  have en : ∀ (n : Int) (x : List (List UInt8)) (lg : Option O_Log) (w : List (List UInt8)), x.length = 1 → keys_Signer_path.b1 n x lg w = some (.brk (n, x, lg, w)) := by
    intro n x lg w hx1
    unfold keys_Signer_path.b1
    rw [if_neg (by simp; omega)]
  have s1 := st i 8 s.f_Leaves L L1 [] (by omega) (by omega) (by omega) (by omega) (by simp) a1
  have s2 := st (i / 2) 4 _ L1 L2 ([] ++ [s.f_Leaves.getD (sib i) default]) (by omega) (by omega) (by omega) (by omega) (by simp) a2
  have s3 := st (i / 2 / 2) 2 _ L2 L3 (([] ++ [s.f_Leaves.getD (sib i) default]) ++ [(upL s.f_Leaves).getD (sib (i / 2)) default]) (by omega) (by omega) (by omega) (by omega) (by simp) a3
  have s4 := st (i / 2 / 2 / 2) 1 _ L3 L4 ((([] ++ [s.f_Leaves.getD (sib i) default]) ++ [(upL s.f_Leaves).getD (sib (i / 2)) default]) ++ [(upL (upL s.f_Leaves)).getD (sib (i / 2 / 2)) default]) (by omega) (by omega) (by omega) (by omega) (by simp) a4
  unfold keys_Signer_path
  have hf : ((s.f_Leaves.length : Int) - 1 : Int).toNat + 2 = 17 := by omega
  rw [hf]
  refine bind_next (lc (body := fun s : Int × (List (List UInt8)) × (Option O_Log) × (List (List UInt8)) => keys_Signer_path.b1 s.1 s.2.1 s.2.2.1 s.2.2.2) 16 s1 (lc 15 s2 (lc 14 s3 (lc 13 s4 (lb_ 12 (en _ _ _ _ n4)))))) ?_
  rfl
/-- What a key signs. -/
noncomputable def sigV (seed : List UInt8) (ls : List (List UInt8)) (i : Nat) (d : List UInt8) : S_api_Sig := ⟨(i : Int), sgP seed (i : Int) d, sgO seed (i : Int) d, pathL ls i⟩
theorem again_eq (L : Option O_Log) {s : S_keys_Signer} (hs : s.f_Seed.length = 32) (hl : s.f_Leaves.length = 16) (h : ∀ p ∈ s.f_Leaves, p.length = 32) {i : Nat} (hi : i < 16) (d : List UInt8) : ∃ L', keys_Signer_Again s L (i : Int) d = some (sigV s.f_Seed s.f_Leaves i d, 0, L') ∧ (L = none → L' = none) := by
  obtain ⟨L1, a1, b1⟩ := sign_eq L hs (i : Int) d
  obtain ⟨L2, a2, b2⟩ := pathI_eq L1 hl h hi
  refine ⟨L2, ?_, fun e => b2 (b1 e)⟩
  unfold keys_Signer_Again
  rw [if_neg (by simp [hl]), if_neg (by simp <;> omega)]
  unfold keys_Signer_Again.j1
  rw [if_neg (by simp <;> omega)]
  exact bind_of a1 (bind_of a2 rfl)
theorem signer_eq (L : Option O_Log) {s : S_keys_Signer} (hs : s.f_Seed.length = 32) (hl : s.f_Leaves.length = 16) (h : ∀ p ∈ s.f_Leaves, p.length = 32) {i : Nat} (hi : i < 16) (hn : s.f_Next = (i : Int)) (d : List UInt8) : ∃ L', keys_Signer_Sign s L d = some (⟨s.f_Seed, (i : Int) + 1, s.f_Leaves⟩, sigV s.f_Seed s.f_Leaves i d, 0, L') ∧ (L = none → L' = none) := by
  obtain ⟨L1, a1, b1⟩ := again_eq L hs hl h hi d
  have hc : slices_Clone_api_Digest s.f_Leaves = some s.f_Leaves := by
    unfold slices_Clone_api_Digest
    rw [if_pos (by omega)]
  refine ⟨L1, ?_, b1⟩
  unfold keys_Signer_Sign
  rw [hn, if_neg (by simp <;> omega)]
  unfold keys_Signer_Sign.j1
  rw [if_neg (by simp <;> omega), hn]
  refine bind_of a1 ?_
  rw [if_neg (by simp)]
  refine bind_of hc ?_
  rw [w64 (by omega)]
/-- From a level to the one above. -/
theorem climb_step {l : List (List UInt8)} {m i : Nat} (hl : l.length = 2 * m) (hi : i < 2 * m) : (if i % 2 = 1 then nd (l.getD (sib i) default) (l.getD i default) else nd (l.getD i default) (l.getD (sib i) default)) = (upL l).getD (i / 2) default := by
  rw [upL_at l (i / 2) (by omega)]
  unfold sib
  split
  · rw [show i - 1 = 2 * (i / 2) by omega, show 2 * (i / 2) + 1 = i by omega]
  · rw [show i + 1 = 2 * (i / 2) + 1 by omega, show 2 * (i / 2) = i by omega]
theorem climb_pathL {l : List (List UInt8)} (hl : l.length = 16) (h : ∀ p ∈ l, p.length = 32) {i : Nat} (hi : i < 16) : climbV (pathL l i) i (l.getD i default) = rootL l := by
  obtain ⟨n1, h1, n2, h2, n3, h3, n4, h4⟩ := levels hl h
  unfold pathL
  simp only [climbV]
  rw [climb_step (l := l) (m := 8) (by omega) (by omega), climb_step (l := upL l) (m := 4) (by omega) (by omega), climb_step (l := upL (upL l)) (m := 2) (by omega) (by omega), climb_step (l := upL (upL (upL l))) (m := 1) (by omega) (by omega)]
  have : i / 2 / 2 / 2 / 2 = 0 := by omega
  rw [this]
  rfl
theorem leaf_at (seed : List UInt8) {i : Nat} (hi : i < 16) : (leaves seed).getD i default = wordOf (pubs seed (i : Int)) := by simp [leaves, List.getD, hi]
/-- What a signer's key signed is right under its root. -/
theorem verV_sig {seed : List UInt8} (h : seed.length = 32) {i : Nat} (hi : i < 16) (d : List UInt8) : verV (rootL (leaves seed)) d (sigV seed (leaves seed) i d) = true := by
  obtain ⟨hl, h32⟩ := leaves_len h
  have hc := climb_pathL hl h32 hi
  rw [leaf_at seed hi, ← opn_sign seed (i : Int) d] at hc
  unfold verV sigV
  simp only [Int.toNat_natCast, hc, decide_true, Bool.and_true]
  simp [(sgP_len h (i : Int) d).1, (sgO_len h (i : Int) d).1, pathL]
  omega
theorem sigV_32 {seed : List UInt8} (h : seed.length = 32) {ls : List (List UInt8)} (hl : ls.length = 16) (h32 : ∀ p ∈ ls, p.length = 32) {i : Nat} (hi : i < 16) (d : List UInt8) : Sig32 (sigV seed ls i d) := ⟨(sgP_len h (i : Int) d).2, (sgO_len h (i : Int) d).2, pathL_len hl h32 hi⟩
end Go.Proofs.YtamnmljgcmbliaaDoor
