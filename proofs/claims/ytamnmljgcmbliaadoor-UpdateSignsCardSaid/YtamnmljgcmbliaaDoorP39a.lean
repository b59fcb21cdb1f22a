/- Plain laws: P35a, P39a, as one text. -/
import Derived.Test.YtamnmljgcmbliaaDoorP33t
import Derived.Test.YtamnmljgcmbliaaDoorP23
namespace Go.Proofs.YtamnmljgcmbliaaDoor
open Go Go.RowKit Go.Proofs
section
set_option linter.unusedVariables false

/-- The levels above leaves. -/
noncomputable def lvs (l : List (List UInt8)) : Nat → List (List UInt8)
  | 0 => l
  | k + 1 => upL (lvs l k)
theorem lvs_len {l : List (List UInt8)} (hl : l.length = 16) (h : ∀ p ∈ l, p.length = 32) : ∀ k, k ≤ 4 → (lvs l k).length = 2 ^ (4 - k) ∧ ∀ p ∈ lvs l k, p.length = 32
  | 0, _ => ⟨hl, h⟩
  | k + 1, hk => by
    obtain ⟨h1, h2⟩ := lvs_len hl h k (by omega)
    obtain ⟨h3, h4⟩ := upL_len h2
    refine ⟨?_, h4⟩
    show (upL (lvs l k)).length = _
    rw [h3, h1, show 4 - k = (4 - (k + 1)) + 1 by omega, Nat.pow_succ]
    omega
theorem lvs_at (l : List (List UInt8)) (hl : l.length = 16) (h : ∀ p ∈ l, p.length = 32) (k at_ : Nat) (hk : k < 4) (hat : at_ < 2 ^ (4 - (k + 1))) : (lvs l (k + 1)).getD at_ default = nd ((lvs l k).getD (2 * at_) default) ((lvs l k).getD (2 * at_ + 1) default) := by
  have h1 := (lvs_len hl h k (by omega)).1
  refine upL_at (lvs l k) at_ ?_
  rw [h1, show 4 - k = (4 - (k + 1)) + 1 by omega, Nat.pow_succ]
  omega
theorem node_0 (j : Nat) (L : Option O_RLog) {l : List (List UInt8)} (at_ : Nat) (hat : at_ < l.length) : ref06_node_f (j + 1) L l 0 (at_ : Int) = some (l.getD at_ default, L) := by
  show ref06_node_s (ref06_node_f j) L l 0 (at_ : Int) = _
  unfold ref06_node_s
  rw [if_pos (by simp), if_pos (by omega)]
  rfl
theorem node_s (j : Nat) {L L1 L2 L3 : Option O_RLog} {l : List (List UInt8)} {k at_ : Nat} (hk : k < 4) (hat : at_ < 1000) {a b c : List UInt8} (h1 : ref06_node_f j L l (k : Int) ((2 * at_ : Nat) : Int) = some (a, L1)) (h2 : ref06_node_f j L1 l (k : Int) ((2 * at_ + 1 : Nat) : Int) = some (b, L2)) (h3 : ref04_Log_Two L2 4 a b = some (c, L3)) :
    ref06_node_f (j + 1) L l ((k + 1 : Nat) : Int) (at_ : Int) = some (c, L3) := by
  show ref06_node_s (ref06_node_f j) L l ((k + 1 : Nat) : Int) (at_ : Int) = _
  unfold ref06_node_s
  have e1 : IntKind.wrap .i64 (((k + 1 : Nat) : Int) - 1) = (k : Int) := by rw [w64 (by omega)]; omega
  have e2 : IntKind.wrap .i64 (2 * (at_ : Int)) = ((2 * at_ : Nat) : Int) := by rw [w64 (by omega)]; omega
  have e3 : IntKind.wrap .i64 (((2 * at_ : Nat) : Int) + 1) = ((2 * at_ + 1 : Nat) : Int) := by rw [w64 (by omega)]; omega
  rw [if_neg (by simp; omega), e1, e2, e3]
  exact bind_of h1 (bind_of h2 (bind_of h3 rfl))
theorem pow_le (k : Nat) (hk : k < 4) : 2 ^ (4 - k) = 2 * 2 ^ (4 - (k + 1)) := by rw [show 4 - k = (4 - (k + 1)) + 1 by omega, Nat.pow_succ]; omega
theorem pow4 (k : Nat) : 2 ^ (4 - k) ≤ 16 := Nat.le_trans (Nat.pow_le_pow_right (by decide) (by omega : 4 - k ≤ 4)) (by decide)
end

section
set_option linter.unusedVariables false

theorem rsec0 {seed : List UInt8} (h : seed.length = 32) (idx i b : Int) : ref05_Secret none seed idx i b = some (sec seed idx i b, none) := by
  unfold ref05_Secret
  exact bind_of (rdig_eq h) (bind_of (rword_eq idx) (bind_of (rbyte_eq i) (bind_of (rbyte_eq b) (bind_of (rNone 1 (secSmall h idx i b)) rfl))))
theorem rsign0 {seed : List UInt8} (h : seed.length = 32) (idx : Int) (d : List UInt8) : ref05_Sign none seed idx d = some (sgP seed idx d, sgO seed idx d, none) := by
  obtain ⟨c, h1, h2⟩ := loop_ok (body := fun s : Int × (Option O_RLog) × (List (List UInt8)) × (List (List UInt8)) => ref05_Sign.b1 seed idx d s.1 s.2.1 s.2.2.1 s.2.2.2)
    (fun s => ∃ i : Nat, i ≤ 32 ∧ s = ((i : Int), none, (List.range i).map (fun (i : Nat) => sec seed idx (i : Int) (bitv d (i : Int))), (List.range i).map fun (i : Nat) => pub (sec seed idx (i : Int) (1 - bitv d (i : Int)))))
    (fun c => match c with | .next s => s.2 = (none, sgP seed idx d, sgO seed idx d) | .ret _ => False) (fun s => (32 - s.1).toNat)
    (fun s ⟨i, hi, hs⟩ => by
      subst hs
      by_cases hlt : i < 32
      · obtain ⟨hb, hb2⟩ := bit_eq d i (by omega)
        have a0 := rsec0 h idx (i : Int) 0
        have a1 := rsec0 h idx (i : Int) 1
        refine .inl ⟨(((i + 1 : Nat) : Int), none, _, _), ?_, ⟨i + 1, by omega, rfl⟩, by simp; omega⟩
        show ref05_Sign.b1 seed idx d i none _ _ = _
        unfold ref05_Sign.b1 ref05_Sign.j1
        rw [if_pos (by simp; omega)]
        refine bind_of a0 (bind_of a1 (bind_of ((rbit_eq d i).1.trans hb) ?_))
        rw [List.range_succ, List.map_append, List.map_append]
        rcases hb2 with e | e
        · rw [e, if_pos (by simp), if_pos (by simp [mxl]; omega)]
          refine bind_of (rpub0 (sec_len h idx (i : Int) 1)) ?_
          rw [if_pos (by simp [mxl]; omega), w64 (by omega)]
          simp only [List.map_cons, List.map_nil, e]
          rfl
        · rw [e, if_neg (by simp), if_pos (by simp [mxl]; omega)]
          refine bind_of (rpub0 (sec_len h idx (i : Int) 0)) ?_
          rw [if_pos (by simp [mxl]; omega), w64 (by omega)]
          simp only [List.map_cons, List.map_nil, e]
          rfl
      · have : i = 32 := by omega
        subst this
        refine .inr (.inl ⟨((32 : Nat), none, _, _), ?_, rfl⟩)
        show ref05_Sign.b1 seed idx d 32 none _ _ = _
        unfold ref05_Sign.b1
        rw [if_neg (by simp)]
        rfl) ((32 - 0 : Int).toNat + 2) (0, none, [], []) ⟨0, by omega, rfl⟩ (by simp)
  unfold ref05_Sign
  cases c with
  | ret r => exact h2.elim
  | next s =>
    obtain ⟨i, s2⟩ := s
    obtain rfl : s2 = (none, sgP seed idx d, sgO seed idx d) := h2
    exact bind_next h1 rfl
theorem rnode0 {l : List (List UInt8)} (hl : l.length = 16) (h : ∀ p ∈ l, p.length = 32) : ∀ (level at_ j : Nat), level ≤ 4 → at_ < 2 ^ (4 - level) → level < j → ref06_node_f j none l (level : Int) (at_ : Int) = some ((lvs l level).getD at_ default, none)
  | 0, at_, j, h1, h2, h3 => by
    obtain ⟨j, rfl⟩ : ∃ i, j = i + 1 := ⟨j - 1, by omega⟩
    exact node_0 j _ at_ (by rw [hl]; exact Nat.lt_of_lt_of_le h2 (pow4 0))
  | k + 1, at_, j, h1, h2, h3 => by
    obtain ⟨j, rfl⟩ : ∃ i, j = i + 1 := ⟨j - 1, by omega⟩
    have hp := pow_le k (by omega)
    have hp4 := pow4 (k + 1)
    obtain ⟨g1, g2⟩ := lvs_len hl h k (by omega)
    have c1 := rtwo0 (get32 g2 (i := 2 * at_) (by omega)) (get32 g2 (i := 2 * at_ + 1) (by omega))
    rw [← lvs_at l hl h k at_ (by omega) h2] at c1
    exact node_s j (by omega) (by omega) (rnode0 hl h k (2 * at_) j (by omega) (by omega) (by omega)) (rnode0 hl h k (2 * at_ + 1) j (by omega) (by omega) (by omega)) c1
theorem ragain0 {s : S_ref06_Signer} (hs : s.f_Seed.length = 32) (hl : s.f_Leaves.length = 16) (h : ∀ p ∈ s.f_Leaves, p.length = 32) {i : Nat} (hi : i < 16) (d : List UInt8) : ref06_Signer_Again s none (i : Int) d = some (sigV s.f_Seed s.f_Leaves i d, 0, none) := by
  have nd_ : ∀ level at_ : Nat, level ≤ 4 → at_ < 2 ^ (4 - level) → ref06_node none s.f_Leaves (level : Int) (at_ : Int) = some ((lvs s.f_Leaves level).getD at_ default, none) := fun level at_ h1 h2 => rnode0 hl h level at_ 100000 h1 h2 (by omega)
  have st : ∀ (m k c : Nat) (w : List (List UInt8)), k < 4 → m < 2 * c → 2 ^ (4 - k) = 2 * c → w.length < 100 → ref06_Signer_Again.b1 s (m : Int) (k : Int) none (some ⟨(i : Int), sgP s.f_Seed (i : Int) d, sgO s.f_Seed (i : Int) d, w⟩) = some (.cont (((m / 2 : Nat) : Int), ((k + 1 : Nat) : Int), none, some ⟨(i : Int), sgP s.f_Seed (i : Int) d, sgO s.f_Seed (i : Int) d, w ++ [(lvs s.f_Leaves k).getD (sib m) default]⟩)) := by
    intro m k c w hk hm hc hw
    have hp4 := pow4 k
    have hr : (m : Int).tmod 2 = ((m % 2 : Nat) : Int) := by rw [Int.tmod_eq_emod_of_nonneg (by omega)]; simp
    have hd : IntKind.wrap .i64 ((m : Int).tdiv 2) = ((m / 2 : Nat) : Int) := half_i m (by omega)
    have hsib := sib_lt hm
    have fin : ref06_Signer_Again.j2 s (m : Int) (k : Int) none (some ⟨(i : Int), sgP s.f_Seed (i : Int) d, sgO s.f_Seed (i : Int) d, w⟩) ((sib m : Nat) : Int) = some (.cont (((m / 2 : Nat) : Int), ((k + 1 : Nat) : Int), none, some ⟨(i : Int), sgP s.f_Seed (i : Int) d, sgO s.f_Seed (i : Int) d, w ++ [(lvs s.f_Leaves k).getD (sib m) default]⟩)) := by
      unfold ref06_Signer_Again.j2
      refine bind_of rfl (bind_of (nd_ k (sib m) (by omega) (by omega)) ?_)
      rw [if_pos (by simp [mxl]; omega), hd, w64 (by omega)]
      rfl
    unfold ref06_Signer_Again.b1
    rw [if_pos (by simp; omega), hr]
    by_cases hb : m % 2 = 1
    · rw [if_pos (by simp; omega)]
      have : IntKind.wrap .i64 ((m : Int) - 1) = ((sib m : Nat) : Int) := by unfold sib; rw [if_pos hb, w64 (by omega)]; omega
      rw [this]; exact fin
    · rw [if_neg (by simp; omega)]
      have : IntKind.wrap .i64 ((m : Int) + 1) = ((sib m : Nat) : Int) := by unfold sib; rw [if_neg hb, w64 (by omega)]; omega
      rw [this]; exact fin
  have en : ∀ (m : Int) (x : Option S_api_Sig), ref06_Signer_Again.b1 s m 4 none x = some (.brk (m, 4, none, x)) := by
    intro m x
    unfold ref06_Signer_Again.b1
    rw [if_neg (by simp)]
  unfold ref06_Signer_Again
  rw [if_neg (by simp [hl]), if_neg (by simp), show decide ((15 : Int) < (i : Int)) = false by simp; omega]
  unfold ref06_Signer_Again.j1
  rw [if_neg (by simp)]
  refine bind_of (rsign0 hs (i : Int) d) (bind_of (nd_ 4 0 (by decide) (by decide)) ?_)
  refine bind_next (lc (body := fun s_1 : Int × Int × (Option O_RLog) × (Option S_api_Sig) => ref06_Signer_Again.b1 s s_1.1 s_1.2.1 s_1.2.2.1 s_1.2.2.2) 5 (st i 0 8 [] (by decide) (by omega) rfl (by simp)) (lc 4 (st (i / 2) 1 4 _ (by decide) (by omega) rfl (by simp)) (lc 3 (st (i / 2 / 2) 2 2 _ (by decide) (by omega) rfl (by simp)) (lc 2 (st (i / 2 / 2 / 2) 3 1 _ (by decide) (by omega) rfl (by simp)) (lb_ 1 (en _ _)))))) ?_
  rfl
theorem ragain_no (L : Option O_RLog) {s : S_ref06_Signer} {i : Int} (h : ¬(s.f_Leaves.length = 16 ∧ 0 ≤ i ∧ i < 16)) (d : List UInt8) : ref06_Signer_Again s L i d = some (⟨0, [], [], []⟩, 2, L) := by
  unfold ref06_Signer_Again
  by_cases h1 : s.f_Leaves.length = 16
  · rw [if_neg (by simp [h1])]
    by_cases h2 : i < 0
    · rw [if_pos (by simp [h2])]
      unfold ref06_Signer_Again.j1
      rw [if_pos rfl]
    · rw [if_neg (by simp; omega)]
      unfold ref06_Signer_Again.j1
      rw [if_pos (by simp; omega)]
  · rw [if_pos (by simp; omega)]
    unfold ref06_Signer_Again.j1
    rw [if_pos rfl]
/-- What a signer's next key signs: the program's answer and the document's. -/
noncomputable def sgnV (s : S_keys_Signer) (d : List UInt8) : S_keys_Signer × S_api_Sig × Int :=
  if 0 ≤ s.f_Next ∧ s.f_Next < 16 then (if s.f_Leaves.length = 16 then (⟨s.f_Seed, s.f_Next + 1, s.f_Leaves⟩, sigV s.f_Seed s.f_Leaves s.f_Next.toNat d, 0) else (s, ⟨0, [], [], []⟩, 2)) else (s, ⟨0, [], [], []⟩, 22)
def rsr (s : S_keys_Signer) : S_ref06_Signer := ⟨s.f_Seed, s.f_Next, s.f_Leaves⟩
theorem sign_any {s : S_keys_Signer} (hs : s.f_Seed.length = 32) (h : ∀ p ∈ s.f_Leaves, p.length = 32) (d : List UInt8) : keys_Signer_Sign s none d = some ((sgnV s d).1, (sgnV s d).2.1, (sgnV s d).2.2, none) := by
  unfold sgnV
  by_cases h1 : 0 ≤ s.f_Next ∧ s.f_Next < 16
  · rw [if_pos h1]
    by_cases h2 : s.f_Leaves.length = 16
    · rw [if_pos h2]
      obtain ⟨L', a1, a2⟩ := signer_eq none hs h2 h (i := s.f_Next.toNat) (by omega) (by omega) d
      obtain rfl := a2 rfl
      rw [a1]
      have : ((s.f_Next.toNat : Nat) : Int) = s.f_Next := by omega
      rw [this]
    · rw [if_neg h2]
      exact signer_arg none h1 h2 d
  · rw [if_neg h1]
    exact signer_spent none h1 d
theorem rsign_any {s : S_keys_Signer} (hs : s.f_Seed.length = 32) (h : ∀ p ∈ s.f_Leaves, p.length = 32) (d : List UInt8) : ref06_Signer_Sign (rsr s) none d = some (rsr (sgnV s d).1, (sgnV s d).2.1, (sgnV s d).2.2, none) := by
  unfold sgnV ref06_Signer_Sign
  have e0 : (rsr s).f_Next = s.f_Next := rfl
  rw [e0]
  by_cases h1 : 0 ≤ s.f_Next ∧ s.f_Next < 16
  · rw [if_neg (by simp; omega), show decide ((15 : Int) < s.f_Next) = false by simp; omega, if_pos h1]
    unfold ref06_Signer_Sign.j1
    rw [if_neg (by simp)]
    by_cases h2 : s.f_Leaves.length = 16
    · rw [if_pos h2]
      have e : (rsr s).f_Next = ((s.f_Next.toNat : Nat) : Int) := by show s.f_Next = _; omega
      rw [e]
      refine bind_of (ragain0 (s := rsr s) hs h2 h (i := s.f_Next.toNat) (by omega) d) ?_
      rw [if_neg (by simp)]
      have e2 : IntKind.wrap .i64 (((s.f_Next.toNat : Nat) : Int) + 1) = s.f_Next + 1 := by rw [w64 (by omega)]; omega
      rw [e2]
      rfl
    · rw [if_neg h2]
      refine bind_of (ragain_no none (s := rsr s) (fun q => h2 q.1) d) ?_
      rw [if_pos (by simp)]
  · rw [if_neg h1]
    by_cases h2 : s.f_Next < 0
    · rw [if_pos (by simp [h2])]
      unfold ref06_Signer_Sign.j1
      rw [if_pos rfl]
    · rw [if_neg (by simp; omega), show decide ((15 : Int) < s.f_Next) = true by simp; omega]
      unfold ref06_Signer_Sign.j1
      rw [if_pos rfl]
end
end Go.Proofs.YtamnmljgcmbliaaDoor
