/- Plain laws: P35a, P35, P36, as one text. -/
import Derived.Test.YtamnmljgcmbliaaDoorP33s
import Derived.Test.YtamnmljgcmbliaaDoorP10
import Derived.Test.YtamnmljgcmbliaaDoorP31
import Derived.Test.YtamnmljgcmbliaaDoorP33s
namespace Go.Proofs.YtamnmljgcmbliaaDoor
open Go Go.RowKit Go.Proofs
section
set_option linter.unusedVariables false

/-- The levels above leaves. -/
noncomputable def lvs (l : List (List UInt8)) : Nat → List (List UInt8)
  | 0 => l
  | k + 1 => upL (lvs l k)
theorem lvs_len {l : List (List UInt8)} (hl : l.length = 16) (h : ∀ p ∈ l, p.length = 32) : ∀ k, k ≤ 4 → (lvs l k).length = 2 ^ (4 - k) ∧ ∀ p ∈ lvs l k, p.length = 32
  | 0, _ => ⟨hl, h⟩
  | k + 1, hk => by
    obtain ⟨h1, h2⟩ := lvs_len hl h k (by omega)
    obtain ⟨h3, h4⟩ := upL_len h2
    refine ⟨?_, h4⟩
    show (upL (lvs l k)).length = _
    rw [h3, h1, show 4 - k = (4 - (k + 1)) + 1 by omega, Nat.pow_succ]
    omega
theorem lvs_at (l : List (List UInt8)) (hl : l.length = 16) (h : ∀ p ∈ l, p.length = 32) (k at_ : Nat) (hk : k < 4) (hat : at_ < 2 ^ (4 - (k + 1))) : (lvs l (k + 1)).getD at_ default = nd ((lvs l k).getD (2 * at_) default) ((lvs l k).getD (2 * at_ + 1) default) := by
  have h1 := (lvs_len hl h k (by omega)).1
  refine upL_at (lvs l k) at_ ?_
  rw [h1, show 4 - k = (4 - (k + 1)) + 1 by omega, Nat.pow_succ]
  omega
theorem node_0 (j : Nat) (L : Option O_RLog) {l : List (List UInt8)} (at_ : Nat) (hat : at_ < l.length) : ref06_node_f (j + 1) L l 0 (at_ : Int) = some (l.getD at_ default, L) := by
  show ref06_node_s (ref06_node_f j) L l 0 (at_ : Int) = _
  unfold ref06_node_s
  rw [if_pos (by simp), if_pos (by omega)]
  rfl
theorem node_s (j : Nat) {L L1 L2 L3 : Option O_RLog} {l : List (List UInt8)} {k at_ : Nat} (hk : k < 4) (hat : at_ < 1000) {a b c : List UInt8} (h1 : ref06_node_f j L l (k : Int) ((2 * at_ : Nat) : Int) = some (a, L1)) (h2 : ref06_node_f j L1 l (k : Int) ((2 * at_ + 1 : Nat) : Int) = some (b, L2)) (h3 : ref04_Log_Two L2 4 a b = some (c, L3)) :
    ref06_node_f (j + 1) L l ((k + 1 : Nat) : Int) (at_ : Int) = some (c, L3) := by
  show ref06_node_s (ref06_node_f j) L l ((k + 1 : Nat) : Int) (at_ : Int) = _
  unfold ref06_node_s
  have e1 : IntKind.wrap .i64 (((k + 1 : Nat) : Int) - 1) = (k : Int) := by rw [w64 (by omega)]; omega
  have e2 : IntKind.wrap .i64 (2 * (at_ : Int)) = ((2 * at_ : Nat) : Int) := by rw [w64 (by omega)]; omega
  have e3 : IntKind.wrap .i64 (((2 * at_ : Nat) : Int) + 1) = ((2 * at_ + 1 : Nat) : Int) := by rw [w64 (by omega)]; omega
  rw [if_neg (by simp; omega), e1, e2, e3]
  exact bind_of h1 (bind_of h2 (bind_of h3 rfl))
theorem pow_le (k : Nat) (hk : k < 4) : 2 ^ (4 - k) = 2 * 2 ^ (4 - (k + 1)) := by rw [show 4 - k = (4 - (k + 1)) + 1 by omega, Nat.pow_succ]; omega
theorem pow4 (k : Nat) : 2 ^ (4 - k) ≤ 16 := Nat.le_trans (Nat.pow_le_pow_right (by decide) (by omega : 4 - k ≤ 4)) (by decide)
end

section
set_option linter.unusedVariables false

theorem rtwoQ {Q : O_RLog} {n : Nat} (A : RefOk Q n) (hn : n < 60000) {a b : List UInt8} (ha : a.length = 32) (hb : b.length = 32) : ∃ Q', ref04_Log_Two (some Q) 4 a b = some (nd a b, some Q') ∧ Grow Q n Q' (n + 1) ∧ Noted Q' (inp 4 [a, b]) := by
  obtain ⟨Q', h1, h2, h3, h4⟩ := rOf A hn 4 (ndSmall ha hb)
  refine ⟨Q', ?_, ⟨h2, h4⟩, h3⟩
  unfold ref04_Log_Two
  exact bind_of (rdig_eq ha) (bind_of (rdig_eq hb) (bind_of h1 rfl))
/-- The nodes of a subtree are noted. -/
def NotedT (Q : O_RLog) (l : List (List UInt8)) (level at_ : Nat) : Prop := ∀ k j, k < level → at_ * 2 ^ (level - 1 - k) ≤ j → j < (at_ + 1) * 2 ^ (level - 1 - k) → Noted Q (inp 4 [(lvs l k).getD (2 * j) default, (lvs l k).getD (2 * j + 1) default])
theorem NotedT.mono {Q Q' : O_RLog} {l : List (List UInt8)} {level at_ : Nat} (h : NotedT Q l level at_) (hg : ∀ y, Noted Q y → Noted Q' y) : NotedT Q' l level at_ := fun k j h1 h2 h3 => hg _ (h k j h1 h2 h3)
theorem rnodeQ {l : List (List UInt8)} (hl : l.length = 16) (h : ∀ p ∈ l, p.length = 32) : ∀ (level at_ j : Nat) {Q : O_RLog} {n : Nat}, level ≤ 4 → at_ < 2 ^ (4 - level) → level < j → RefOk Q n → n + 2 * 2 ^ level < 59000 →
    ∃ Q', ref06_node_f j (some Q) l (level : Int) (at_ : Int) = some ((lvs l level).getD at_ default, some Q') ∧ Grow Q n Q' (n + (2 * 2 ^ level - 1)) ∧ NotedT Q' l level at_
  | 0, at_, j, Q, n, h1, h2, h3, A, hn => by
    obtain ⟨j, rfl⟩ : ∃ i, j = i + 1 := ⟨j - 1, by omega⟩
    have : at_ < l.length := by rw [hl]; exact Nat.lt_of_lt_of_le h2 (pow4 0)
    obtain ⟨L, A'⟩ := A
    refine ⟨Q, node_0 j _ at_ this, ⟨⟨L, ⟨A'.j1, A'.j2, A'.j3, A'.j4, A'.j5, by have := A'.j6.1; omega, fun k l h => by have := A'.j6.2 k l h; omega⟩⟩, fun y hy => hy⟩, fun k j hk => by omega⟩
  | k + 1, at_, j, Q, n, h1, h2, h3, A, hn => by
    obtain ⟨j, rfl⟩ : ∃ i, j = i + 1 := ⟨j - 1, by omega⟩
    have hp := pow_le k (by omega)
    have hp4 := pow4 (k + 1)
    have h2k : 2 ^ (k + 1) = 2 * 2 ^ k := by rw [Nat.pow_succ]; omega
    have hk1 : 1 ≤ 2 ^ k := Nat.one_le_two_pow
    obtain ⟨Q1, a1, a2, a3⟩ := rnodeQ hl h k (2 * at_) j (by omega) (by omega) (by omega) A (by omega)
    obtain ⟨Q2, b1, b2, b3⟩ := rnodeQ hl h k (2 * at_ + 1) j (by omega) (by omega) (by omega) a2.ok (by omega)
    obtain ⟨g1, g2⟩ := lvs_len hl h k (by omega)
    obtain ⟨Q3, c1, c2, c3⟩ := rtwoQ b2.ok (by omega) (get32 g2 (i := 2 * at_) (by omega)) (get32 g2 (i := 2 * at_ + 1) (by omega))
    rw [← lvs_at l hl h k at_ (by omega) h2] at c1
    refine ⟨Q3, node_s j (by omega) (by omega) a1 b1 c1, ⟨?_, fun y hy => c2.old y (b2.old y (a2.old y hy))⟩, fun k' j' q1 q2 q3 => ?_⟩
    · obtain ⟨L, A'⟩ := c2.ok
      refine ⟨L, ⟨A'.j1, A'.j2, A'.j3, A'.j4, A'.j5, ?_, fun k l h => ?_⟩⟩
      · have := A'.j6.1; omega
      · have := A'.j6.2 k l h; omega
    · by_cases hk' : k' = k
      · subst hk'
        simp only [Nat.add_sub_cancel, Nat.sub_self, Nat.pow_zero, Nat.mul_one] at q2 q3
        have : j' = at_ := by omega
        subst this
        exact c3
      · have hlt : k' < k := by omega
        have e : k + 1 - 1 - k' = (k - 1 - k') + 1 := by omega
        rw [e, Nat.pow_succ] at q2 q3
        have m1 : at_ * (2 ^ (k - 1 - k') * 2) = 2 * at_ * 2 ^ (k - 1 - k') := by rw [Nat.mul_comm (2 ^ (k - 1 - k')) 2, ← Nat.mul_assoc, Nat.mul_comm at_ 2]
        have m2 : (at_ + 1) * (2 ^ (k - 1 - k') * 2) = (2 * at_ + 1 + 1) * 2 ^ (k - 1 - k') := by rw [Nat.mul_comm (2 ^ (k - 1 - k')) 2, ← Nat.mul_assoc, show (at_ + 1) * 2 = 2 * at_ + 1 + 1 by omega]
        rw [m1] at q2
        rw [m2] at q3
        by_cases hc : j' < (2 * at_ + 1) * 2 ^ (k - 1 - k')
        · exact c2.old _ (b2.old _ (a3 k' j' hlt q2 hc))
        · exact c2.old _ (b3 k' j' hlt (by omega) q3)
theorem rootL_lvs (l : List (List UInt8)) : rootL l = (lvs l 4).getD 0 default := rfl
theorem rrootQ {s : S_ref06_Signer} (hl : s.f_Leaves.length = 16) (h : ∀ p ∈ s.f_Leaves, p.length = 32) {Q : O_RLog} {n : Nat} (A : RefOk Q n) (hn : n < 58000) :
    ∃ Q', ref06_Signer_Root s (some Q) = some (rootL s.f_Leaves, some Q') ∧ Grow Q n Q' (n + 31) ∧ NotedT Q' s.f_Leaves 4 0 := by
  obtain ⟨Q1, a1, a2, a3⟩ := rnodeQ hl h 4 0 100000 (by decide) (by decide) (by decide) A (by omega)
  refine ⟨Q1, ?_, a2, a3⟩
  unfold ref06_Signer_Root ref06_node
  rw [if_neg (by simp [hl])]
  exact bind_of a1 rfl
/-- All words of a seed are noted. -/
def NotedS (Q : O_RLog) (seed : List UInt8) (k : Nat) : Prop := ∀ i : Nat, i < k → NotedW Q seed (i : Int) 64 ∧ Noted Q (inp 3 [(pubs seed (i : Int)).flatten])
theorem rnewQ {seed : List UInt8} (h : seed.length = 32) {Q : O_RLog} {n : Nat} (A : RefOk Q n) (hn : n < 50000) :
    ∃ Q', ref06_New (some Q) seed = some (⟨seed, 0, leaves seed⟩, some Q') ∧ Grow Q n Q' (n + 2064) ∧ NotedS Q' seed 16 := by
  obtain ⟨c, h1, h2⟩ := loop_ok (body := fun s : Int × (Option O_RLog) × (Option S_ref06_Signer) => ref06_New.b1 seed s.1 s.2.1 s.2.2)
    (fun s => ∃ (i : Nat) (Q' : O_RLog), i ≤ 16 ∧ s = ((i : Int), some Q', some ⟨seed, 0, (List.range i).map fun (i : Nat) => wordOf (pubs seed (i : Int))⟩) ∧ Grow Q n Q' (n + 129 * i) ∧ NotedS Q' seed i)
    (fun c => match c with | .next s => ∃ Q', s.2 = (some Q', some ⟨seed, 0, leaves seed⟩) ∧ Grow Q n Q' (n + 2064) ∧ NotedS Q' seed 16 | .ret _ => False) (fun s => (16 - s.1).toNat)
    (fun s ⟨i, Q', hi, hs, hg, hN⟩ => by
      subst hs
      by_cases hlt : i < 16
      · obtain ⟨Q1, a1, a2, a3, a4⟩ := rword_law h (i : Int) hg.ok (by omega)
        refine .inl ⟨(((i + 1 : Nat) : Int), some Q1, _), ?_, ⟨i + 1, Q1, by omega, rfl, hg.trans a2, fun j hj => ?_⟩, by simp; omega⟩
        · show ref06_New.b1 seed (i : Int) (some Q') _ = _
          unfold ref06_New.b1
          rw [if_pos (by simp; omega)]
          refine bind_of rfl (bind_of a1 ?_)
          rw [if_pos (by simp [mxl]; omega), w64 (by omega), List.range_succ, List.map_append]
          rfl
        · by_cases hji : j < i
          · exact ⟨(hN j hji).1.mono a2.old, a2.old _ (hN j hji).2⟩
          · have : j = i := by omega
            subst this
            exact ⟨a3, a4⟩
      · have : i = 16 := by omega
        subst this
        refine .inr (.inl ⟨((16 : Nat), some Q', _), ?_, Q', rfl, hg, hN⟩)
        show ref06_New.b1 seed 16 (some Q') _ = _
        unfold ref06_New.b1
        rw [if_neg (by simp)]
        rfl) ((16 - 0 : Int).toNat + 2) (0, some Q, some ⟨seed, 0, []⟩) ⟨0, Q, by omega, rfl, Grow.refl A, fun j hj => by omega⟩ (by simp)
  unfold ref06_New
  cases c with
  | ret r => exact h2.elim
  | next s =>
    obtain ⟨i, s2⟩ := s
    obtain ⟨Q', rfl, h3, h4⟩ : ∃ Q', s2 = (some Q', some ⟨seed, 0, leaves seed⟩) ∧ Grow Q n Q' (n + 2064) ∧ NotedS Q' seed 16 := h2
    exact ⟨Q', bind_next h1 rfl, h3, h4⟩
end

section
set_option linter.unusedVariables false

theorem keysMakes_true (seed : List UInt8) (hs : seed.length = 32) : law06_KeysMakes seed = some true := by
  obtain ⟨hl, h32⟩ := leaves_len hs
  unfold law06_KeysMakes
  refine bind_of awake6 ?_
  rw [if_neg (by simp)]
  refine bind_of (x := (⟨[], []⟩ : O_Log)) rfl (bind_of new_r ?_)
  obtain ⟨L1, a1, _⟩ := new_eq (some ⟨[], []⟩) hs
  obtain ⟨Q1, b1, b2, b3⟩ := rnewQ hs refNew (by decide)
  obtain ⟨L2, a2, _⟩ := root_eq L1 (s := ⟨seed, 0, leaves seed⟩) hl h32
  obtain ⟨Q2, c1, c2, c3⟩ := rrootQ (s := ⟨seed, 0, leaves seed⟩) hl h32 b2.ok (by decide)
  refine bind_of a1 (bind_of b1 (bind_of awake6 ?_))
  rw [if_pos rfl]
  refine bind_of (x := true) ?_ ?_
  · unfold law06_same law06_same.j1
    rw [if_pos (by simp), if_pos (by simp)]
    exact bind_of (sameL (leaves seed) (leaves seed) (by omega)) (by simp)
  · rw [if_pos rfl]
    refine bind_of a2 (bind_of c1 ?_)
    unfold law06_KeysMakes.j1
    simp
end
end Go.Proofs.YtamnmljgcmbliaaDoor
