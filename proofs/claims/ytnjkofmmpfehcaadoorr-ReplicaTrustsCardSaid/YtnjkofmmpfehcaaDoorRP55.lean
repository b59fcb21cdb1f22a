/- Plain laws: P53, P54, P55, as one text. -/
import Derived.Test.YtnjkofmmpfehcaaDoorRP37
import Derived.Test.YtnjkofmmpfehcaaDoorRP52
namespace Go.Proofs.YtnjkofmmpfehcaaDoorR
open Go Go.RowKit Go.Proofs
section
set_option linter.unusedVariables false

noncomputable def n6 (a b : List UInt8) : List UInt8 := H (inp 6 [a, b])
theorem n6_len {a b : List UInt8} (ha : a.length = 32) (hb : b.length = 32) : (n6 a b).length = 32 := ((ndSmall ha hb).H 6).2
noncomputable def zs : Nat → List UInt8
  | 0 => List.replicate 32 0
  | k + 1 => n6 (zs k) (zs k)
theorem zs_len : ∀ k, (zs k).length = 32
  | 0 => by simp [zs]
  | k + 1 => n6_len (zs_len k) (zs_len k)
/-- A node of the tree of these leaves. -/
noncomputable def nv (ls : List (List UInt8)) : Nat → Nat → List UInt8
  | 0, a => if ls.length ≤ a then zs 0 else ls.getD a default
  | k + 1, a => if ls.length ≤ a * 2 ^ (k + 1) then zs (k + 1) else n6 (nv ls k (2 * a)) (nv ls k (2 * a + 1))
theorem nv_out (ls : List (List UInt8)) : ∀ (k a : Nat), ls.length ≤ a * 2 ^ k → nv ls k a = zs k
  | 0, a, h => by unfold nv; rw [if_pos (by simpa using h)]
  | k + 1, a, h => by unfold nv; rw [if_pos h]
theorem nv_two (ls : List (List UInt8)) (k a : Nat) : nv ls (k + 1) a = n6 (nv ls k (2 * a)) (nv ls k (2 * a + 1)) := by
  by_cases h : ls.length ≤ a * 2 ^ (k + 1)
  · have e : a * 2 ^ (k + 1) = 2 * a * 2 ^ k := by rw [Nat.pow_succ, Nat.mul_comm (2 ^ k) 2, ← Nat.mul_assoc, Nat.mul_comm a 2]
    have h2 : 2 * a * 2 ^ k ≤ (2 * a + 1) * 2 ^ k := Nat.mul_le_mul_right _ (by omega)
    rw [nv_out ls (k + 1) a h, nv_out ls k (2 * a) (by omega), nv_out ls k (2 * a + 1) (by omega)]
    rfl
  · conv => lhs; unfold nv
    rw [if_neg h]
theorem nv_len {ls : List (List UInt8)} (h : ∀ p ∈ ls, p.length = 32) : ∀ (k a : Nat), (nv ls k a).length = 32
  | 0, a => by
    unfold nv
    split
    · exact zs_len 0
    · exact get32 h (by omega)
  | k + 1, a => by rw [nv_two]; exact n6_len (nv_len h k _) (nv_len h k _)
/-- A climb, and its nodes noted. -/
noncomputable def cl6 : List (List UInt8) → Nat → List UInt8 → List UInt8
  | [], _, w => w
  | p :: ps, n, w => cl6 ps (n / 2) (if n % 2 = 1 then n6 p w else n6 w p)
def NotedC6 (Q : O_RLog) : List (List UInt8) → Nat → List UInt8 → Prop
  | [], _, _ => True
  | p :: ps, n, w => Noted Q (inp 6 (if n % 2 = 1 then [p, w] else [w, p])) ∧ NotedC6 Q ps (n / 2) (if n % 2 = 1 then n6 p w else n6 w p)
/-- All nodes of a tree are noted. -/
def NotedT6 (Q : O_RLog) (ls : List (List UInt8)) : Prop := ∀ k a, k < 32 → a < 2 ^ (31 - k) → Noted Q (inp 6 [nv ls k (2 * a), nv ls k (2 * a + 1)])
theorem climb6_bind {Q : O_RLog} {n0 : Nat} (A : RefOk Q n0) (hn : n0 < 60000) (hc : ref04_Log_Clash (some Q) = some false) {ls : List (List UInt8)} (h : ∀ p ∈ ls, p.length = 32) (hT : NotedT6 Q ls) :
    ∀ (ps : List (List UInt8)) (k n : Nat) (w : List UInt8), k + ps.length = 32 → n < 2 ^ ps.length → (∀ p ∈ ps, p.length = 32) → w.length = 32 → NotedC6 Q ps n w → cl6 ps n w = nv ls 32 0 → w = nv ls k n
  | [], k, n, w, hk, hn', _, _, _, he => by
    have : k = 32 := by simpa using hk
    have : n = 0 := by simpa using hn'
    subst this; subst k
    exact he
  | p :: ps, k, n, w, hk, hn', hp, hw, hC, he => by
    have hp1 := hp p (by simp)
    have hw1 : (if n % 2 = 1 then n6 p w else n6 w p).length = 32 := by
      split
      · exact n6_len hp1 hw
      · exact n6_len hw hp1
    have hk' : k + 1 + ps.length = 32 := by simp at hk; omega
    have hn2 : n / 2 < 2 ^ ps.length := by
      rw [List.length_cons, Nat.pow_succ] at hn'
      omega
    have ih := climb6_bind A hn hc h hT ps (k + 1) (n / 2) _ hk' hn2 (fun q hq => hp q (by simp [hq])) hw1 hC.2 he
    rw [nv_two] at ih
    have hN := hT k (n / 2) (by omega) (by
      have : ps.length = 31 - k := by omega
      rw [← this]; exact hn2)
    have s1 := ndSmall (nv_len h k (2 * (n / 2))) (nv_len h k (2 * (n / 2) + 1))
    have hx := hC.1
    by_cases hb : n % 2 = 1
    · rw [if_pos hb] at hx ih
      have := noted_inj A hn hc (ndSmall hp1 hw) s1 hx hN ih
      simp only [List.cons.injEq, and_true] at this
      rw [this.2, show 2 * (n / 2) + 1 = n by omega]
    · rw [if_neg hb] at hx ih
      have := noted_inj A hn hc (ndSmall hw hp1) s1 hx hN ih
      simp only [List.cons.injEq, and_true] at this
      rw [this.1, show 2 * (n / 2) = n by omega]
theorem rtwo6 {Q : O_RLog} {n : Nat} (A : RefOk Q n) (hn : n < 60000) {a b : List UInt8} (ha : a.length = 32) (hb : b.length = 32) : ∃ Q', ref04_Log_Two (some Q) 6 a b = some (n6 a b, some Q') ∧ Grow Q n Q' (n + 1) ∧ Noted Q' (inp 6 [a, b]) := by
  obtain ⟨Q', h1, h2, h3, h4⟩ := rOf A hn 6 (ndSmall ha hb)
  refine ⟨Q', ?_, ⟨h2, h4⟩, h3⟩
  unfold ref04_Log_Two
  exact bind_of (rdig_eq ha) (bind_of (rdig_eq hb) (bind_of h1 rfl))
theorem RefOk.le {Q : O_RLog} {n m : Nat} (A : RefOk Q n) (h : n ≤ m) : RefOk Q m := by
  obtain ⟨L, A'⟩ := A
  exact ⟨L, ⟨A'.j1, A'.j2, A'.j3, A'.j4, A'.j5, by have := A'.j6.1; omega, fun k l h => by have := A'.j6.2 k l h; omega⟩⟩
theorem size_eq (k : Nat) (hk : k ≤ 32) : ref07_size (k : Int) = some (((2 ^ k : Nat) : Int)) := by
  have hp : ∀ i, i ≤ 32 → 2 ^ i ≤ 4294967296 := fun i hi => by
    have : (2 : Nat) ^ i ≤ 2 ^ 32 := Nat.pow_le_pow_right (by decide) hi
    simpa using this
  unfold ref07_size
  obtain ⟨c, h1, h2⟩ := loop_ok (body := fun s : Int × Int => ref07_size.b1 (k : Int) s.1 s.2) (fun s => ∃ i : Nat, i ≤ k ∧ s = (((2 ^ i : Nat) : Int), (i : Int))) (fun c => match c with | .next s => s.1 = ((2 ^ k : Nat) : Int) | .ret _ => False) (fun s => (k - s.2).toNat)
      (fun s ⟨i, hi, hs⟩ => by
        subst hs
        have h1 := hp i (by omega)
        by_cases q : i < k
        · have h2 := hp (i + 1) (by omega)
          refine .inl ⟨(((2 ^ (i + 1) : Nat) : Int), ((i + 1 : Nat) : Int)), ?_, ⟨i + 1, by omega, rfl⟩, by simp; omega⟩
          show ref07_size.b1 (k : Int) ((2 ^ i : Nat) : Int) (i : Int) = _
          unfold ref07_size.b1
          have e : (2 : Int) * ((2 ^ i : Nat) : Int) = ((2 ^ (i + 1) : Nat) : Int) := by rw [Nat.pow_succ]; omega
          generalize (2 : Nat) ^ (i + 1) = z at h2 e ⊢
          rw [if_pos (by simp; omega), e, w64 (by omega), w64 (by omega)]
          rfl
        · have : i = k := by omega
          subst this
          refine .inr (.inl ⟨(((2 ^ i : Nat) : Int), (i : Int)), ?_, rfl⟩)
          show ref07_size.b1 (i : Int) _ (i : Int) = _
          unfold ref07_size.b1
          rw [if_neg (by simp)]) (((k : Int) - 0 : Int).toNat + 2) (1, 0) ⟨0, by omega, rfl⟩ (by simp)
  cases c with
  | ret _ => exact h2.elim
  | next s =>
    have h2 : s.1 = ((2 ^ k : Nat) : Int) := h2
    refine bind_next h1 ?_
    rw [← h2]
end

section
set_option linter.unusedVariables false

def NotedZ (Q : O_RLog) : Prop := ∀ k, k < 33 → Noted Q (inp 6 [zs k, zs k])
noncomputable def zl : List (List UInt8) := (List.range 33).map zs
theorem zl_at (k : Nat) (hk : k < 33) : zl.getD k default = zs k := by simp [zl, List.getD, hk]
theorem noughtsQ {Q : O_RLog} {n : Nat} (A : RefOk Q n) (hn : n < 50000) : ∃ Q', ref07_Noughts (some Q) = some (zl, some Q') ∧ Grow Q n Q' (n + 33) ∧ NotedZ Q' := by
  obtain ⟨c, h1, h2⟩ := loop_ok (body := fun s : Int × (Option O_RLog) × (List UInt8) × (List (List UInt8)) => ref07_Noughts.b1 s.1 s.2.1 s.2.2.1 s.2.2.2)
      (fun s => ∃ (i : Nat) (Q' : O_RLog), i ≤ 33 ∧ s = ((i : Int), some Q', zs i, (List.range i).map zs) ∧ Grow Q n Q' (n + i) ∧ ∀ k, k < i → Noted Q' (inp 6 [zs k, zs k]))
      (fun c => match c with | .next s => ∃ Q', s.2.1 = some Q' ∧ s.2.2.2 = zl ∧ Grow Q n Q' (n + 33) ∧ NotedZ Q' | .ret _ => False) (fun s => (33 - s.1).toNat)
      (fun s ⟨i, Q', hi, hs, hg, hN⟩ => by
        subst hs
        by_cases q : i < 33
        · obtain ⟨Q2, a1, a2, a3⟩ := rtwo6 hg.ok (by omega) (zs_len i) (zs_len i)
          refine .inl ⟨(((i + 1 : Nat) : Int), some Q2, zs (i + 1), (List.range (i + 1)).map zs), ?_, ⟨i + 1, Q2, by omega, rfl, ⟨a2.ok, fun y hy => a2.old y (hg.old y hy)⟩, fun k hk => ?_⟩, by simp; omega⟩
          · show ref07_Noughts.b1 (i : Int) (some Q') (zs i) ((List.range i).map zs) = _
            unfold ref07_Noughts.b1
            rw [if_pos (by simp; omega), if_pos (by simp [mxl]; omega)]
            refine bind_of a1 ?_
            rw [w64 (by omega), List.range_succ, List.map_append]
            rfl
          · by_cases e : k = i
            · subst e; exact a3
            · exact a2.old _ (hN k (by omega))
        · have : i = 33 := by omega
          subst this
          refine .inr (.inl ⟨(((33 : Nat) : Int), some Q', zs 33, zl), ?_, Q', rfl, rfl, hg, hN⟩)
          show ref07_Noughts.b1 ((33 : Nat) : Int) (some Q') (zs 33) _ = _
          unfold ref07_Noughts.b1
          rw [if_neg (by simp)]
          rfl) ((33 - 0 : Int).toNat + 2) (0, some Q, List.replicate 32 0, []) ⟨0, Q, by omega, rfl, ⟨A, fun y hy => hy⟩, fun k hk => by omega⟩ (by simp)
  cases c with
  | ret _ => exact h2.elim
  | next s =>
    obtain ⟨s1, s2, s3, s4⟩ := s
    obtain ⟨Q', e1, e2, e3, e4⟩ : ∃ Q', s2 = some Q' ∧ s4 = zl ∧ Grow Q n Q' (n + 33) ∧ NotedZ Q' := h2
    refine ⟨Q', ?_, e3, e4⟩
    unfold ref07_Noughts
    refine bind_next h1 ?_
    show some (s4, s2) = _
    rw [e1, e2]
/-- The nodes under one are noted. -/
def NotedU (Q : O_RLog) (ls : List (List UInt8)) (level at_ : Nat) : Prop := ∀ k a, k < level → at_ * 2 ^ (level - 1 - k) ≤ a → a < (at_ + 1) * 2 ^ (level - 1 - k) → Noted Q (inp 6 [nv ls k (2 * a), nv ls k (2 * a + 1)])
theorem NotedZ.out {Q : O_RLog} (hZ : NotedZ Q) {ls : List (List UInt8)} {level at_ : Nat} (hl : level ≤ 32) (h : ls.length ≤ at_ * 2 ^ level) : NotedU Q ls level at_ := by
  intro k a hk h1 h2
  have e : level = (level - 1 - k) + (k + 1) := by omega
  have e2 : at_ * 2 ^ level ≤ a * 2 ^ (k + 1) := by
    conv => lhs; rw [e, Nat.pow_add, ← Nat.mul_assoc]
    exact Nat.mul_le_mul_right _ h1
  have e3 : a * 2 ^ (k + 1) = 2 * a * 2 ^ k := by rw [Nat.pow_succ, Nat.mul_comm (2 ^ k) 2, ← Nat.mul_assoc, Nat.mul_comm a 2]
  have e4 : 2 * a * 2 ^ k ≤ (2 * a + 1) * 2 ^ k := Nat.mul_le_mul_right _ (by omega)
  rw [nv_out ls k (2 * a) (by omega), nv_out ls k (2 * a + 1) (by omega)]
  exact hZ k (by omega)
/-- How many leaves stand under a node. -/
def und (len level at_ : Nat) : Nat := min len ((at_ + 1) * 2 ^ level) - at_ * 2 ^ level
theorem und_two (len level at_ : Nat) : und len (level + 1) at_ = und len level (2 * at_) + und len level (2 * at_ + 1) := by
  unfold und
  have e1 : at_ * 2 ^ (level + 1) = 2 * at_ * 2 ^ level := by rw [Nat.pow_succ, Nat.mul_comm (2 ^ level) 2, ← Nat.mul_assoc, Nat.mul_comm at_ 2]
  have e2 : (at_ + 1) * 2 ^ (level + 1) = (2 * at_ + 1 + 1) * 2 ^ level := by rw [Nat.pow_succ, Nat.mul_comm (2 ^ level) 2, ← Nat.mul_assoc, show (at_ + 1) * 2 = 2 * at_ + 1 + 1 by omega]
  have e3 : (2 * at_ + 1) * 2 ^ level = 2 * at_ * 2 ^ level + 2 ^ level := by rw [Nat.add_mul, Nat.one_mul]
  have e4 : (2 * at_ + 1 + 1) * 2 ^ level = 2 * at_ * 2 ^ level + 2 ^ level + 2 ^ level := by rw [Nat.add_mul, Nat.add_mul, Nat.one_mul]
  rw [e1, e2, e3, e4]
  omega
theorem nodeQ {ls : List (List UInt8)} (h : ∀ p ∈ ls, p.length = 32) (hlen : ls.length ≤ 100) : ∀ (level at_ j : Nat) {Q : O_RLog} {n : Nat}, level ≤ 32 → at_ < 2 ^ (32 - level) → level < j → RefOk Q n → NotedZ Q → n + level * und ls.length level at_ < 59000 →
    ∃ Q', ref07_node_f j (some Q) zl ls (level : Int) (at_ : Int) = some (nv ls level at_, some Q') ∧ Grow Q n Q' (n + level * und ls.length level at_) ∧ NotedU Q' ls level at_ := by
  intro level
  induction level with
  | zero =>
    intro at_ j Q n h1 h2 h3 A hZ hn
    obtain ⟨j, rfl⟩ : ∃ i, j = i + 1 := ⟨j - 1, by omega⟩
    have h2' : at_ < 4294967296 := by simpa using h2
    refine ⟨Q, ?_, ⟨by simpa using A, fun y hy => hy⟩, fun k a hk => by omega⟩
    show ref07_node_s (ref07_node_f j) (some Q) zl ls ((0 : Nat) : Int) (at_ : Int) = _
    unfold ref07_node_s
    refine bind_of (size_eq 0 (by omega)) ?_
    have e : IntKind.wrap .i64 ((at_ : Int) * ((2 ^ 0 : Nat) : Int)) = (at_ : Int) := by rw [show ((2 ^ 0 : Nat) : Int) = 1 from rfl, Int.mul_one, w64 (by omega)]
    rw [e]
    unfold nv
    by_cases q : ls.length ≤ at_
    · rw [if_pos (by simp; omega), if_pos (by simp [zl]), if_pos q]
      exact congrArg (fun z => some (z, some Q)) (zl_at 0 (by omega))
    · rw [if_neg (by simp; omega), if_pos (by decide), if_pos (by omega), if_neg q]
      rfl
  | succ k ih =>
    intro at_ j Q n h1 h2 h3 A hZ hn
    obtain ⟨j, rfl⟩ : ∃ i, j = i + 1 := ⟨j - 1, by omega⟩
    have hk2 : (2 : Nat) ^ (32 - k) = 2 * 2 ^ (32 - (k + 1)) := by rw [show 32 - k = (32 - (k + 1)) + 1 by omega, Nat.pow_succ, Nat.mul_comm]
    have hb : at_ * 2 ^ (k + 1) ≤ 4294967296 := by
      have : at_ * 2 ^ (k + 1) ≤ 2 ^ (32 - (k + 1)) * 2 ^ (k + 1) := Nat.mul_le_mul_right _ (by omega)
      rw [← Nat.pow_add, show 32 - (k + 1) + (k + 1) = 32 by omega] at this
      simpa using this
    have ha : at_ ≤ 4294967296 := by
      have : 1 ≤ 2 ^ (k + 1) := Nat.one_le_two_pow
      exact Nat.le_trans (Nat.le_mul_of_pos_right _ this) hb
    have hg : IntKind.wrap .i64 ((at_ : Int) * ((2 ^ (k + 1) : Nat) : Int)) = ((at_ * 2 ^ (k + 1) : Nat) : Int) := by
      rw [← Int.natCast_mul]
      generalize at_ * 2 ^ (k + 1) = z at hb
      exact w64 (by omega)
    by_cases q : ls.length ≤ at_ * 2 ^ (k + 1)
    · refine ⟨Q, ?_, ⟨A.le (by omega), fun y hy => hy⟩, hZ.out h1 q⟩
      show ref07_node_s (ref07_node_f j) (some Q) zl ls ((k + 1 : Nat) : Int) (at_ : Int) = _
      unfold ref07_node_s
      refine bind_of (size_eq (k + 1) h1) ?_
      rw [hg, nv_out ls (k + 1) at_ q]
      generalize at_ * 2 ^ (k + 1) = z at q hb
      rw [if_pos (by simp; omega), if_pos (by simp [zl]; omega)]
      exact congrArg (fun z => some (z, some Q)) (zl_at (k + 1) (by omega))
    · have hu := und_two ls.length k at_
      have hc1 : 1 ≤ und ls.length (k + 1) at_ := by
        unfold und
        have : at_ * 2 ^ (k + 1) < (at_ + 1) * 2 ^ (k + 1) := Nat.mul_lt_mul_of_pos_right (by omega) (Nat.pow_pos (by decide))
        omega
      have hsum : k * und ls.length k (2 * at_) + k * und ls.length k (2 * at_ + 1) = k * und ls.length (k + 1) at_ := by rw [hu, Nat.mul_add]
      have hall : (k + 1) * und ls.length (k + 1) at_ = k * und ls.length (k + 1) at_ + und ls.length (k + 1) at_ := by rw [Nat.add_mul, Nat.one_mul]
      obtain ⟨Q1, a1, a2, a3⟩ := ih (2 * at_) j (by omega) (by omega) (by omega) A hZ (by omega)
      obtain ⟨Q2, b1, b2, b3⟩ := ih (2 * at_ + 1) j (by omega) (by omega) (by omega) a2.ok (fun k hk => a2.old _ (hZ k hk)) (by omega)
      obtain ⟨Q3, c1, c2, c3⟩ := rtwo6 b2.ok (by omega) (nv_len h k (2 * at_)) (nv_len h k (2 * at_ + 1))
      refine ⟨Q3, ?_, ⟨c2.ok.le (by omega), fun y hy => c2.old y (b2.old y (a2.old y hy))⟩, fun k' a q1 q2 q3 => ?_⟩
      · show ref07_node_s (ref07_node_f j) (some Q) zl ls ((k + 1 : Nat) : Int) (at_ : Int) = _
        unfold ref07_node_s
        refine bind_of (size_eq (k + 1) h1) ?_
        rw [hg, nv_two]
        have e1 : IntKind.wrap .i64 (((k + 1 : Nat) : Int) - 1) = (k : Int) := by rw [w64 (by omega)]; omega
        have e2 : IntKind.wrap .i64 (2 * (at_ : Int)) = ((2 * at_ : Nat) : Int) := by rw [w64 (by omega)]; omega
        have e3 : IntKind.wrap .i64 (((2 * at_ : Nat) : Int) + 1) = ((2 * at_ + 1 : Nat) : Int) := by rw [w64 (by omega)]; omega
        rw [e1, e2, e3]
        generalize at_ * 2 ^ (k + 1) = z at q hb
        rw [if_neg (by simp; omega), if_neg (by simp; omega)]
        exact bind_of a1 (bind_of b1 (bind_of c1 rfl))
      · by_cases hk' : k' = k
        · subst hk'
          simp only [Nat.add_sub_cancel, Nat.sub_self, Nat.pow_zero, Nat.mul_one] at q2 q3
          have : a = at_ := by omega
          subst this
          exact c3
        · have hlt : k' < k := by omega
          have e : k + 1 - 1 - k' = (k - 1 - k') + 1 := by omega
          rw [e, Nat.pow_succ] at q2 q3
          have m1 : at_ * (2 ^ (k - 1 - k') * 2) = 2 * at_ * 2 ^ (k - 1 - k') := by rw [Nat.mul_comm (2 ^ (k - 1 - k')) 2, ← Nat.mul_assoc, Nat.mul_comm at_ 2]
          have m2 : (at_ + 1) * (2 ^ (k - 1 - k') * 2) = (2 * at_ + 1 + 1) * 2 ^ (k - 1 - k') := by rw [Nat.mul_comm (2 ^ (k - 1 - k')) 2, ← Nat.mul_assoc, show (at_ + 1) * 2 = 2 * at_ + 1 + 1 by omega]
          rw [m1] at q2
          rw [m2] at q3
          by_cases hc : a < (2 * at_ + 1) * 2 ^ (k - 1 - k')
          · exact c2.old _ (b2.old _ (a3 k' a hlt q2 hc))
          · exact c2.old _ (b3 k' a hlt (by omega) q3)
/-- The root of the document. -/
theorem ofQ {ls : List (List UInt8)} (h : ∀ p ∈ ls, p.length = 32) (hlen : ls.length ≤ 100) {Q : O_RLog} {n : Nat} (A : RefOk Q n) (hn : n < 40000) :
    ∃ Q', ref07_Of (some Q) ls = some (nv ls 32 0, some Q') ∧ Grow Q n Q' (n + 33 + 3200) ∧ NotedT6 Q' ls := by
  obtain ⟨Q1, a1, a2, a3⟩ := noughtsQ A (by omega)
  have hu : und ls.length 32 0 ≤ 100 := by unfold und; omega
  have hu2 : 32 * und ls.length 32 0 ≤ 3200 := by omega
  obtain ⟨Q2, b1, b2, b3⟩ := nodeQ h hlen 32 0 100000 (by omega) (by decide) (by omega) a2.ok a3 (by omega)
  refine ⟨Q2, ?_, ⟨b2.ok.le (by omega), fun y hy => b2.old y (a2.old y hy)⟩, fun k a hk ha => b3 k a hk (by omega) (by rw [Nat.zero_add, Nat.one_mul]; exact ha)⟩
  unfold ref07_Of
  refine bind_of a1 (bind_of (x := ls) ?_ (bind_of b1 rfl))
  unfold ref07_first
  rw [if_neg (by simp; omega)]
end

section
set_option linter.unusedVariables false

theorem shr32 (a i : Nat) (hi : i < 32) : shr .u32 (a : Int) (i : Int) = ((a / 2 ^ i : Nat) : Int) := by
  unfold shr
  have e : min ((i : Nat) : Int).toNat IntKind.u32.bits = i := by
    have : IntKind.u32.bits = 32 := rfl
    rw [this]; omega
  have e2 : ((2 : Int) ^ i) = ((2 ^ i : Nat) : Int) := by simp
  rw [e, e2, Int.fdiv_eq_ediv_of_nonneg _ (Int.natCast_nonneg _)]
  exact (Int.natCast_ediv a (2 ^ i)).symm
theorem and1 (x : Nat) (hx : x < 4294967296) : bits .and .u32 (x : Int) 1 = ((x % 2 : Nat) : Int) := by
  have := bits_mask .u32 32 (by decide) (fun n h0 h1 => wu32 ⟨h0, by omega⟩) 1 (by omega) (x : Int) (by omega) (by omega)
  simpa using this
theorem bit_m (a i : Nat) (ha : a < 4294967296) (hi : i < 32) : (bits .and .u32 (shr .u32 (a : Int) (i : Int)) 1 = (1 : Int)) ↔ a / 2 ^ i % 2 = 1 := by
  rw [shr32 a i hi, and1 _ (Nat.lt_of_le_of_lt (Nat.div_le_self _ _) ha)]
  omega
theorem bit_r (a i : Nat) (ha : a < 4294967296) (hi : i < 32) : ref07_bit (a : Int) (i : Int) = some (decide (a / 2 ^ i % 2 = 1)) := by
  unfold ref07_bit
  obtain ⟨c, h1, h2⟩ := loop_ok (body := fun s : Int × Int => ref07_bit.b1 (i : Int) s.1 s.2) (fun s => ∃ k : Nat, k ≤ i ∧ s = (((a / 2 ^ k : Nat) : Int), (k : Int))) (fun c => match c with | .next s => s.1 = ((a / 2 ^ i : Nat) : Int) | .ret _ => False) (fun s => (i - s.2).toNat)
      (fun s ⟨k, hk, hs⟩ => by
        subst hs
        have hle : a / 2 ^ k ≤ a := Nat.div_le_self _ _
        by_cases q : k < i
        · have e : a / 2 ^ (k + 1) = a / 2 ^ k / 2 := by rw [Nat.pow_succ, Nat.div_div_eq_div_mul]
          refine .inl ⟨(((a / 2 ^ (k + 1) : Nat) : Int), ((k + 1 : Nat) : Int)), ?_, ⟨k + 1, by omega, rfl⟩, by simp; omega⟩
          show ref07_bit.b1 (i : Int) ((a / 2 ^ k : Nat) : Int) (k : Int) = _
          unfold ref07_bit.b1
          rw [e]
          generalize a / 2 ^ k = z at hle
          have e2 : (z : Int).tdiv 2 = ((z / 2 : Nat) : Int) := by rw [Int.tdiv_eq_ediv_of_nonneg (by omega)]; simp
          rw [if_pos (by simp; omega), e2, wu32 (by omega), w64 (by omega)]
          rfl
        · have : k = i := by omega
          subst this
          refine .inr (.inl ⟨(((a / 2 ^ k : Nat) : Int), (k : Int)), ?_, rfl⟩)
          show ref07_bit.b1 (k : Int) _ (k : Int) = _
          unfold ref07_bit.b1
          rw [if_neg (by simp)]) (((i : Int) - 0 : Int).toNat + 2) ((a : Int), 0) ⟨0, by omega, by simp⟩ (by simp)
  cases c with
  | ret _ => exact h2.elim
  | next s =>
    obtain ⟨s1, s2⟩ := s
    have h2 : s1 = ((a / 2 ^ i : Nat) : Int) := h2
    refine bind_next h1 ?_
    show some (decide (s1.tmod 2 = 1)) = _
    rw [h2]
    generalize a / 2 ^ i = z
    have e : (z : Int).tmod 2 = ((z % 2 : Nat) : Int) := by rw [Int.tmod_eq_emod_of_nonneg (by omega)]; simp
    rw [e]
    congr 1
    rw [decide_eq_decide]
    omega
theorem cl6_app : ∀ (ps : List (List UInt8)) (p : List UInt8) (n : Nat) (w : List UInt8), cl6 (ps ++ [p]) n w = if n / 2 ^ ps.length % 2 = 1 then n6 p (cl6 ps n w) else n6 (cl6 ps n w) p
  | [], p, n, w => by simp [cl6]
  | q :: ps, p, n, w => by
    rw [List.cons_append, cl6, cl6_app ps p, cl6, List.length_cons, Nat.pow_succ, Nat.mul_comm (2 ^ ps.length) 2, ← Nat.div_div_eq_div_mul]
theorem NotedC6.app {Q : O_RLog} : ∀ {ps : List (List UInt8)} {p : List UInt8} {n : Nat} {w : List UInt8}, NotedC6 Q ps n w → Noted Q (inp 6 (if n / 2 ^ ps.length % 2 = 1 then [p, cl6 ps n w] else [cl6 ps n w, p])) → NotedC6 Q (ps ++ [p]) n w
  | [], p, n, w, _, h => ⟨by simpa [cl6] using h, trivial⟩
  | q :: ps, p, n, w, h, k => by
    refine ⟨h.1, NotedC6.app h.2 ?_⟩
    rw [cl6, List.length_cons, Nat.pow_succ, Nat.mul_comm (2 ^ ps.length) 2, ← Nat.div_div_eq_div_mul] at k
    exact k
theorem NotedC6.mono {Q Q' : O_RLog} (hg : ∀ y, Noted Q y → Noted Q' y) : ∀ {ps : List (List UInt8)} {n : Nat} {w : List UInt8}, NotedC6 Q ps n w → NotedC6 Q' ps n w
  | [], _, _, _ => trivial
  | _ :: _, _, _, h => ⟨hg _ h.1, NotedC6.mono hg h.2⟩
theorem cl6_len : ∀ {ps : List (List UInt8)} {n : Nat} {w : List UInt8}, (∀ p ∈ ps, p.length = 32) → w.length = 32 → (cl6 ps n w).length = 32
  | [], _, _, _, h => h
  | p :: ps, n, w, hp, h => by
    rw [cl6]
    refine cl6_len (fun q hq => hp q (by simp [hq])) ?_
    split
    · exact n6_len (hp p (by simp)) h
    · exact n6_len h (hp p (by simp))
theorem take1 (l : List (List UInt8)) (k : Nat) (hk : k < l.length) : l.take (k + 1) = l.take k ++ [l.getD k default] := by
  rw [List.take_succ_eq_append_getElem hk]; simp [List.getD, hk]
theorem node6 (L : Option O_Log) {a b : List UInt8} (ha : a.length = 32) (hb : b.length = 32) : ∃ L', merkle_node L a b = some (n6 a b, L') := by
  obtain ⟨L', h1, h2⟩ := dOf L 6 (ndSmall ha hb)
  refine ⟨L', ?_⟩
  unfold merkle_node
  refine bind_of (x := (n6 a b, L')) ?_ rfl
  unfold digest_Log_Two
  exact bind_of (dig_eq ha) (bind_of (dig_eq hb) (bind_of h1 rfl))
theorem climbM (L : Option O_Log) {d : List UInt8} (hd : d.length = 32) {i : Nat} (hi : i < 4294967296) {br : List (List UInt8)} (hb : ∀ p ∈ br, p.length = 32) (hl : br.length = 32) : ∃ L', merkle_Climb L d (i : Int) br = some (cl6 br i d, L') := by
  have hm : (if (32 : Int) < (br.length : Int) then (32 : Int) else (br.length : Int)) = 32 := by rw [hl]; rfl
  have hw : (br.take (if (32 : Int) < (br.length : Int) then (32 : Int) else (br.length : Int)).toNat).drop (0 : Int).toNat = br := by
    rw [hm]
    show (br.take 32).drop 0 = br
    rw [List.take_of_length_le (by omega)]; rfl
  unfold merkle_Climb
  rw [if_pos (by rw [hm, hl]; decide)]
  obtain ⟨c, h1, h2⟩ := loop_ok (body := fun s : Int × (Option O_Log) × (List UInt8) => merkle_Climb.b1 (i : Int) br s.1 s.2.1 s.2.2) (fun s => ∃ k : Nat, k ≤ br.length ∧ s.1 = (k : Int) ∧ s.2.2 = cl6 (br.take k) i d) (fun c => match c with | .next s => s.2.2 = cl6 br i d | .ret _ => False) (fun s => (br.length - s.1).toNat)
      (fun s ⟨k, hk, hs, h3⟩ => by
        obtain ⟨s1, s2, s3⟩ := s
        simp only at hs h3
        subst hs
        subst h3
        have h32 : (cl6 (br.take k) i d).length = 32 := cl6_len (fun p hp => hb p (List.mem_of_mem_take hp)) hd
        have e1 : ((k : Nat) : Int).toNat = k := by omega
        by_cases q : k < br.length
        · have hg := get32 hb q
          have hlen : (br.take k).length = k := by simp; omega
          have ht := cl6_app (br.take k) (br.getD k default) i d
          rw [← take1 br k q, hlen] at ht
          by_cases w : i / 2 ^ k % 2 = 1
          · obtain ⟨L', n1⟩ := node6 s2 hg h32
            refine .inl ⟨(((k + 1 : Nat) : Int), L', cl6 (br.take (k + 1)) i d), ?_, ⟨k + 1, by omega, rfl, rfl⟩, by simp; omega⟩
            show merkle_Climb.b1 (i : Int) br (k : Int) s2 _ = _
            unfold merkle_Climb.b1
            rw [hw, if_pos (by simp; omega), if_pos (by omega), if_pos (by omega), if_pos (decide_eq_true ((bit_m i k hi (by omega)).2 w)), e1]
            refine bind_of n1 ?_
            unfold merkle_Climb.j1
            rw [w64 (by omega), ht, if_pos w]
            rfl
          · obtain ⟨L', n1⟩ := node6 s2 h32 hg
            refine .inl ⟨(((k + 1 : Nat) : Int), L', cl6 (br.take (k + 1)) i d), ?_, ⟨k + 1, by omega, rfl, rfl⟩, by simp; omega⟩
            show merkle_Climb.b1 (i : Int) br (k : Int) s2 _ = _
            unfold merkle_Climb.b1
            rw [hw, if_pos (by simp; omega), if_pos (by omega), if_pos (by omega), if_neg (by rw [decide_eq_false (fun z => w ((bit_m i k hi (by omega)).1 z))]; decide), e1]
            refine bind_of n1 ?_
            unfold merkle_Climb.j1
            rw [w64 (by omega), ht, if_neg w]
            rfl
        · have : k = br.length := by omega
          subst this
          refine .inr (.inl ⟨((br.length : Int), s2, cl6 br i d), ?_, rfl⟩)
          show merkle_Climb.b1 (i : Int) br (br.length : Int) s2 _ = _
          unfold merkle_Climb.b1
          rw [hw, if_neg (by simp), List.take_length]) (((((br.take (if (32 : Int) < (br.length : Int) then (32 : Int) else (br.length : Int)).toNat).drop (0 : Int).toNat).length : Int) - 0 : Int).toNat + 2) (0, L, d) ⟨0, by omega, rfl, rfl⟩ (by rw [hw]; simp)
  cases c with
  | ret _ => exact h2.elim
  | next s =>
    have h2 : s.2.2 = cl6 br i d := h2
    exact ⟨s.2.1, bind_next h1 (by rw [← h2])⟩
theorem climbR {Q : O_RLog} {n : Nat} (A : RefOk Q n) (hn : n < 50000) {d : List UInt8} (hd : d.length = 32) {i : Nat} (hi : i < 4294967296) {br : List (List UInt8)} (hb : ∀ p ∈ br, p.length = 32) (hl : br.length = 32) :
    ∃ Q', ref07_Climb (some Q) d (i : Int) br = some (cl6 br i d, some Q') ∧ Grow Q n Q' (n + 32) ∧ NotedC6 Q' br i d := by
  unfold ref07_Climb
  obtain ⟨c, h1, h2⟩ := loop_ok (body := fun s : Int × (Option O_RLog) × (List UInt8) => ref07_Climb.b1 (i : Int) br s.1 s.2.1 s.2.2) (fun s => ∃ (k : Nat) (Q' : O_RLog), k ≤ br.length ∧ s = ((k : Int), some Q', cl6 (br.take k) i d) ∧ Grow Q n Q' (n + k) ∧ NotedC6 Q' (br.take k) i d)
      (fun c => match c with | .next s => ∃ Q', s.2 = (some Q', cl6 br i d) ∧ Grow Q n Q' (n + 32) ∧ NotedC6 Q' br i d | .ret _ => False) (fun s => (br.length - s.1).toNat)
      (fun s ⟨k, Q', hk, hs, hg, hN⟩ => by
        subst hs
        have h32 : (cl6 (br.take k) i d).length = 32 := cl6_len (fun p hp => hb p (List.mem_of_mem_take hp)) hd
        have e1 : ((k : Nat) : Int).toNat = k := by omega
        by_cases q : k < br.length
        · have hgt := get32 hb q
          have hlen : (br.take k).length = k := by simp; omega
          have ht := cl6_app (br.take k) (br.getD k default) i d
          rw [← take1 br k q, hlen] at ht
          by_cases w : i / 2 ^ k % 2 = 1
          · obtain ⟨Q2, a1, a2, a3⟩ := rtwo6 hg.ok (by omega) hgt h32
            refine .inl ⟨(((k + 1 : Nat) : Int), some Q2, cl6 (br.take (k + 1)) i d), ?_, ⟨k + 1, Q2, by omega, rfl, ⟨a2.ok, fun y hy => a2.old y (hg.old y hy)⟩, ?_⟩, by simp; omega⟩
            · show ref07_Climb.b1 (i : Int) br (k : Int) (some Q') _ = _
              unfold ref07_Climb.b1 ref07_Climb.j1
              rw [if_pos (by simp; omega), if_pos (by simp; omega)]
              refine bind_of (bit_r i k hi (by omega)) ?_
              rw [if_pos (decide_eq_true w), if_pos (by omega), e1]
              refine bind_of a1 ?_
              unfold ref07_Climb.j2
              rw [w64 (by omega), ht, if_pos w]
              rfl
            · rw [take1 br k q]
              exact NotedC6.app (NotedC6.mono a2.old hN) (by rw [hlen, if_pos w]; exact a3)
          · obtain ⟨Q2, a1, a2, a3⟩ := rtwo6 hg.ok (by omega) h32 hgt
            refine .inl ⟨(((k + 1 : Nat) : Int), some Q2, cl6 (br.take (k + 1)) i d), ?_, ⟨k + 1, Q2, by omega, rfl, ⟨a2.ok, fun y hy => a2.old y (hg.old y hy)⟩, ?_⟩, by simp; omega⟩
            · show ref07_Climb.b1 (i : Int) br (k : Int) (some Q') _ = _
              unfold ref07_Climb.b1 ref07_Climb.j1
              rw [if_pos (by simp; omega), if_pos (by simp; omega)]
              refine bind_of (bit_r i k hi (by omega)) ?_
              rw [if_neg (by rw [decide_eq_false w]; decide), if_pos (by omega), e1]
              refine bind_of a1 ?_
              unfold ref07_Climb.j2
              rw [w64 (by omega), ht, if_neg w]
              rfl
            · rw [take1 br k q]
              exact NotedC6.app (NotedC6.mono a2.old hN) (by rw [hlen, if_neg w]; exact a3)
        · have : k = br.length := by omega
          subst this
          rw [List.take_length] at hN ⊢
          refine .inr (.inl ⟨((br.length : Int), some Q', cl6 br i d), ?_, Q', rfl, by rw [hl] at hg; exact hg, hN⟩)
          show ref07_Climb.b1 (i : Int) br (br.length : Int) (some Q') _ = _
          unfold ref07_Climb.b1 ref07_Climb.j1
          rw [if_neg (by simp), if_neg (by decide)]) 100000 (0, some Q, d) ⟨0, Q, by omega, rfl, ⟨A, fun y hy => hy⟩, trivial⟩ (by simp [hl])
  cases c with
  | ret _ => exact h2.elim
  | next s =>
    obtain ⟨s1, s2⟩ := s
    obtain ⟨Q', rfl, h3, h4⟩ : ∃ Q', s2 = (some Q', cl6 br i d) ∧ Grow Q n Q' (n + 32) ∧ NotedC6 Q' br i d := h2
    exact ⟨Q', bind_next h1 rfl, h3, h4⟩
theorem prove_roots (r : S_api_Replica) {d : List UInt8} (hd : d.length = 32) {i : Nat} (hi : i < 4294967296) {br : List (List UInt8)} (hb : ∀ p ∈ br, p.length = 32) (hr : r.f_Roots.length < 1000) (hs : r.f_States = []) :
    ∃ r' k L, replica_Prove none r 0 d (i : Int) br = some (r', k, L) ∧ (k = 0 → br.length = 32 ∧ ∃ t ∈ r.f_Roots, t.f_Root = cl6 br i d) := by
  unfold replica_Prove
  rcases open_cases r with o | ⟨k, k0, o⟩
  · by_cases a : br.length = 32
    · obtain ⟨L', c1⟩ := climbM none hd hi hb a
      obtain ⟨k, c2⟩ := counts_total r (cl6 br i d) 0 (by omega)
      by_cases k0 : k = 0
      · subst k0
        have hin : ∃ t ∈ r.f_Roots, t.f_Root = cl6 br i d := by
          have hlt := rt_lt r (cl6 br i d)
          by_cases z : 0 ≤ rtI r (cl6 br i d)
          · refine ⟨_, ?_, rt_at r _ z⟩
            have : r.f_Roots.getD (rtI r (cl6 br i d)).toNat default = r.f_Roots[(rtI r (cl6 br i d)).toNat]'(by omega) := by simp [List.getD, show (rtI r (cl6 br i d)).toNat < r.f_Roots.length by omega]
            rw [this]; exact List.getElem_mem _
          · exfalso
            have : replica_Counts r (cl6 br i d) 0 = some 31 := by
              unfold replica_Counts
              exact bind_of (root_idx r _ (by omega)) (by rw [if_pos (decide_eq_true (show rtI r (cl6 br i d) < 0 by omega))])
            rw [this] at c2
            exact absurd (Option.some.inj c2) (by decide)
        refine ⟨⟨r.f_Chain, r.f_Here, r.f_Updater, r.f_Watchers, r.f_Window, r.f_Committed, r.f_Roots, ([] : List S_api_State) ++ [⟨d, 1, cl6 br i d⟩], r.f_Failed, r.f_Cut⟩, 0, L', bind_of o ?_, fun _ => ⟨a, hin⟩⟩
        rw [if_neg (by decide), if_neg (by simp [a])]
        refine bind_of c1 (bind_of c2 ?_)
        rw [if_neg (by decide)]
        refine bind_of (x := -1) ?_ ?_
        · have := state_idx r d (by rw [hs]; decide)
          rw [hs] at this
          exact this
        · rw [if_neg (by decide)]
          unfold replica_Prove.j1
          rw [if_neg (by decide), if_pos (by decide), hs]
          unfold replica_Prove.j2
          rw [if_neg (by decide)]
          refine bind_of (x := []) (by unfold slices_Clone_api_State; rw [if_pos (by rw [hs]; decide), hs]) ?_
          rw [if_neg (by decide), if_pos (by simp [mxl])]
          rfl
      · refine ⟨r, k, L', bind_of o ?_, fun z => absurd z k0⟩
        rw [if_neg (by decide), if_neg (by simp [a])]
        refine bind_of c1 (bind_of c2 ?_)
        rw [if_pos (by simp [k0])]
    · refine ⟨r, 35, none, bind_of o ?_, fun z => absurd z (by decide)⟩
      rw [if_neg (by decide), if_pos (by simp; omega)]
  · exact ⟨r, k, none, bind_of o (by rw [if_pos (by simp [k0])]), fun z => absurd z k0⟩
noncomputable def rts (ls : List (List UInt8)) (i : Nat) : List S_api_Timed := (List.range i).map fun m => ⟨nv (ls.take m) 32 0, 0⟩
theorem replicaTrusts_true (ls : List (List UInt8)) (leaf : List UInt8) (i : Int) (br : List (List UInt8)) (h : ∀ p ∈ ls, p.length = 32) (hd : leaf.length = 32) (hi : InR .u32 i) (hb : ∀ p ∈ br, p.length = 32) : law17_ReplicaTrusts ls leaf i br = some true := by
  have hj : law17_ReplicaTrusts.j1 ls leaf i br true = some true := by
    unfold law17_ReplicaTrusts.j1
    rw [if_pos rfl]
  have hi' := inr32 hi
  obtain ⟨idx, rfl⟩ := Int.eq_ofNat_of_zero_le hi'.1
  have hidx : idx < 4294967296 := by omega
  unfold law17_ReplicaTrusts
  refine bind_of awake17 ?_
  rw [if_neg (by decide)]
  by_cases hc : 6 < ls.length
  · rw [if_pos (by simp; omega)]; exact hj
  · rw [if_neg (by simp; omega)]
    by_cases hc2 : 100 < br.length
    · rw [show decide ((100 : Int) < (br.length : Int)) = true by simp; omega]; exact hj
    · rw [show decide ((100 : Int) < (br.length : Int)) = false by simp; omega]
      unfold law17_ReplicaTrusts.j1
      rw [if_neg (by decide)]
      refine bind_of (x := (⟨[], []⟩ : O_RLog)) rfl ?_
      refine bind_of (x := (⟨1, 2, ([u8of 1] ++ List.replicate (32 - 1) 0), [], 0, List.replicate 32 0, [], [], false, false⟩ : S_api_Replica)) (by unfold replica_New; exact bind_of (cloneD [] (by simp)) rfl) ?_
      generalize ([u8of 1] ++ List.replicate (32 - 1) 0 : List UInt8) = x
      generalize hz : (List.replicate 32 0 : List UInt8) = z
      have ew : IntKind.wrap .i64 ((ls.length : Int) + 1) = ((ls.length + 1 : Nat) : Int) := by rw [w64 (by omega)]; rfl
      rw [ew]
      have htk : ∀ m, ∀ p ∈ ls.take m, p.length = 32 := fun m p hp => h p (List.mem_of_mem_take hp)
      obtain ⟨c, h1, h2⟩ := loop_ok (body := fun s : Int × (Option O_RLog) × (Option S_api_Replica) => law17_ReplicaTrusts.b1 ls s.1 s.2.1 s.2.2)
          (fun s => ∃ (k : Nat) (Q : O_RLog), k ≤ ls.length + 1 ∧ s = ((k : Int), some Q, some ⟨1, 2, x, [], 0, z, rts ls k, [], false, false⟩) ∧ RefOk Q (k * 3233) ∧ ∀ m, m < k → NotedT6 Q (ls.take m))
          (fun c => match c with | .next s => ∃ Q, s.2 = (some Q, some ⟨1, 2, x, [], 0, z, rts ls (ls.length + 1), [], false, false⟩) ∧ RefOk Q 22631 ∧ ∀ m, m < ls.length + 1 → NotedT6 Q (ls.take m) | .ret _ => False) (fun s => (((ls.length + 1 : Nat) : Int) - s.1).toNat)
          (fun s ⟨k, Q, hk, hs, hR, hN⟩ => by
            subst hs
            by_cases q : k < ls.length + 1
            · obtain ⟨Q2, a1, a2, a3⟩ := ofQ (htk k) (by simp; omega) hR (by omega)
              refine .inl ⟨(((k + 1 : Nat) : Int), some Q2, some ⟨1, 2, x, [], 0, z, rts ls (k + 1), [], false, false⟩), ?_, ⟨k + 1, Q2, by omega, rfl, a2.ok.le (by omega), fun m hm => ?_⟩, by simp; omega⟩
              · show law17_ReplicaTrusts.b1 ls (k : Int) (some Q) (some _) = _
                unfold law17_ReplicaTrusts.b1
                rw [ew, if_pos (by simp; omega)]
                refine bind_of (x := (⟨1, 2, x, [], 0, z, rts ls k, [], false, false⟩ : S_api_Replica)) rfl ?_
                have e0 : (ls.take ((k : Nat) : Int).toNat).drop (0 : Int).toNat = ls.take k := rfl
                rw [if_pos (by omega), e0]
                refine bind_of a1 ?_
                have hlen : (rts ls k).length = k := by simp [rts]
                rw [if_pos (by simp [mxl, hlen]; omega), w64 (by omega)]
                have er : rts ls (k + 1) = rts ls k ++ [⟨nv (ls.take k) 32 0, 0⟩] := by simp [rts, List.range_succ]
                rw [er]
                rfl
              · by_cases e : m = k
                · subst e; exact a3
                · intro k' a' hk' ha'
                  exact a2.old _ (hN m (by omega) k' a' hk' ha')
            · have : k = ls.length + 1 := by omega
              subst this
              refine .inr (.inl ⟨(((ls.length + 1 : Nat) : Int), some Q, some ⟨1, 2, x, [], 0, z, rts ls (ls.length + 1), [], false, false⟩), ?_, Q, rfl, hR.le (by omega), hN⟩)
              show law17_ReplicaTrusts.b1 ls ((ls.length + 1 : Nat) : Int) (some Q) _ = _
              unfold law17_ReplicaTrusts.b1
              rw [ew, if_neg (by simp)]) ((((ls.length + 1 : Nat) : Int) - 0 : Int).toNat + 2) (0, some ⟨[], []⟩, some ⟨1, 2, x, [], 0, z, [], [], false, false⟩) ⟨0, ⟨[], []⟩, by omega, rfl, refNew.le (by omega), fun m hm => by omega⟩ (by simp)
      cases c with
      | ret _ => exact h2.elim
      | next s =>
        obtain ⟨s1, s2⟩ := s
        obtain ⟨Q, rfl, hR, hN⟩ : ∃ Q, s2 = (some Q, some ⟨1, 2, x, [], 0, z, rts ls (ls.length + 1), [], false, false⟩) ∧ RefOk Q 22631 ∧ ∀ m, m < ls.length + 1 → NotedT6 Q (ls.take m) := h2
        refine bind_next h1 ?_
        refine bind_of (x := (⟨1, 2, x, [], 0, z, rts ls (ls.length + 1), [], false, false⟩ : S_api_Replica)) rfl ?_
        obtain ⟨r', k, L, p1, p2⟩ := prove_roots ⟨1, 2, x, [], 0, z, rts ls (ls.length + 1), [], false, false⟩ hd hidx hb (by simp [rts]; omega) rfl
        refine bind_of p1 ?_
        by_cases k0 : k = 0
        · obtain ⟨hbl, t, ht, htr⟩ := p2 k0
          rw [if_neg (by simp [k0])]
          obtain ⟨Q2, g1, g2, g3⟩ := climbR hR (by omega) hd hidx hb hbl
          refine bind_of g1 ?_
          obtain ⟨b, hcl⟩ := clash_some g2.ok (by omega)
          have j3 : ∀ b, law17_ReplicaTrusts.j3 b = some b := fun b => rfl
          have fin : ∀ there : List UInt8, (b = false → leaf = there ∨ leaf = z) → law17_ReplicaTrusts.j2 leaf (cl6 br idx leaf, some Q2) there = some true := by
            intro there hth
            unfold law17_ReplicaTrusts.j2
            by_cases e1 : leaf = there
            · rw [if_pos (decide_eq_true e1), j3]
            · rw [if_neg (by rw [decide_eq_false e1]; decide), hz]
              by_cases e2 : leaf = z
              · rw [if_pos (decide_eq_true e2), j3]
              · rw [if_neg (by rw [decide_eq_false e2]; decide)]
                refine bind_of hcl ?_
                rw [j3]
                cases b with
                | true => rfl
                | false => exact ((hth rfl).elim e1 e2).elim
          have sound : b = false → ∃ m, m ≤ ls.length ∧ leaf = if m ≤ idx then z else ls.getD idx default := by
            intro hbf
            subst hbf
            simp only [rts, List.mem_map, List.mem_range] at ht
            obtain ⟨m, hm, rfl⟩ := ht
            have hs := climb6_bind g2.ok (by omega) hcl (htk m) (fun k' a' hk' ha' => g2.old _ (hN m hm k' a' hk' ha')) br 0 idx leaf (by omega) (by rw [hbl]; omega) hb hd g3 htr.symm
            refine ⟨m, by omega, ?_⟩
            rw [hs]
            unfold nv
            have hlm : (ls.take m).length = m := by simp; omega
            rw [hlm]
            by_cases q : m ≤ idx
            · rw [if_pos q, if_pos q, ← hz]; rfl
            · rw [if_neg q, if_neg q]
              simp only [List.getD, List.getElem?_take, if_pos (show idx < m by omega)]
          have ei : IntKind.wrap .i64 (idx : Int) = (idx : Int) := w64 (by omega)
          rw [ei]
          by_cases hlt : idx < ls.length
          · rw [if_pos (by simp; omega), if_pos (by omega)]
            refine fin _ (fun hbf => ?_)
            obtain ⟨m, hm, hl⟩ := sound hbf
            by_cases q : m ≤ idx
            · rw [if_pos q] at hl; exact .inr hl
            · rw [if_neg q] at hl; exact .inl hl
          · rw [if_neg (by simp; omega)]
            refine fin _ (fun hbf => ?_)
            obtain ⟨m, hm, hl⟩ := sound hbf
            rw [if_pos (by omega)] at hl
            exact .inr hl
        · rw [if_pos (by simp [k0])]
end
end Go.Proofs.YtnjkofmmpfehcaaDoorR
