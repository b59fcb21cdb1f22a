/- Plain laws: P35a, P39a, P39, as one text. -/
import Derived.Test.YteboiefnflipjaaGreatDoorP32
import Derived.Test.YteboiefnflipjaaGreatDoorP24
import Derived.Test.YteboiefnflipjaaGreatDoorP33t
namespace Go.Proofs.YteboiefnflipjaaGreatDoor
open Go Go.RowKit Go.Proofs
section
set_option linter.unusedVariables false

/-- The levels above leaves. -/
noncomputable def RU (l : List (List UInt8)) : Nat → List (List UInt8)
  | 0 => l
  | k + 1 => F3 (RU l k)
theorem NC {l : List (List UInt8)} (hl : l.length = 16) (h : ∀ p ∈ l, p.length = 32) : ∀ k, k ≤ 4 → (RU l k).length = 2 ^ (4 - k) ∧ ∀ p ∈ RU l k, p.length = 32
  | 0, _ => ⟨hl, h⟩
  | k + 1, hk => by
    obtain ⟨h1, h2⟩ := NC hl h k (by omega)
    obtain ⟨h3, h4⟩ := Ij h2
    refine ⟨?_, h4⟩
    show (F3 (RU l k)).length = _
    rw [h3, h1, show 4 - k = (4 - (k + 1)) + 1 by omega, Nat.pow_succ]
    omega
end

section
set_option linter.unusedVariables false

/-- What a signer's next key signs: the program's answer and the document's. -/
noncomputable def JV (s : Am) (d : List UInt8) : Am × AE × Int :=
  if 0 ≤ s.CH ∧ s.CH < 16 then (if s.Bi.length = 16 then (⟨s.CV, s.CH + 1, s.Bi⟩, PX s.CV s.Bi s.CH.toNat d, 0) else (s, ⟨0, [], [], []⟩, 2)) else (s, ⟨0, [], [], []⟩, 22)
theorem L6 {s : Am} (hs : s.CV.length = 32) (h : ∀ p ∈ s.Bi, p.length = 32) (d : List UInt8) : BI s none d = some ((JV s d).1, (JV s d).2.1, (JV s d).2.2, none) := by
  unfold JV
  by_cases h1 : 0 ≤ s.CH ∧ s.CH < 16
  · rw [if_pos h1]
    by_cases h2 : s.Bi.length = 16
    · rw [if_pos h2]
      obtain ⟨L', a1, a2⟩ := N4 none hs h2 h (i := s.CH.toNat) (by omega) (by omega) d
      obtain rfl := a2 rfl
      rw [a1]
      have : ((s.CH.toNat : Nat) : Int) = s.CH := by omega
      rw [this]
    · rw [if_neg h2]
      exact MV none h1 h2 d
  · rw [if_neg h1]
    exact Ln none h1 d
end

section
set_option linter.unusedVariables false

noncomputable def Lm (s : Am) (home : Int) (a b : List UInt8) : Am × AI × Int :=
  let r := JV s (Kz home a b)
  if r.2.2 = 0 then (r.1, ⟨home, a, b, r.2.1⟩, 0) else (s, ⟨0, List.replicate 32 0, List.replicate 32 0, ⟨0, [], [], []⟩⟩, r.2.2)
noncomputable def JR (s : Am) (home : Int) (a : List UInt8) (w : Int) : Am × A1 × Int :=
  let r := JV s (Ks home a w)
  if r.2.2 = 0 then (r.1, ⟨home, a, w, r.2.1⟩, 0) else (s, ⟨0, List.replicate 32 0, 0, ⟨0, [], [], []⟩⟩, r.2.2)
theorem LY {s : Am} (hs : s.CV.length = 32) (h : ∀ p ∈ s.Bi, p.length = 32) {home : Int} (hh : E5 .u32 home) {a b : List UInt8} (ha : a.length = 32) (hb : b.length = 32) : El none s home a b = some ((Lm s home a b).1, (Lm s home a b).2.1, (Lm s home a b).2.2, none) := by
  obtain ⟨L1, a1, a2⟩ := MC none (home := home) (NG hh) ha hb
  obtain rfl := a2 rfl
  unfold El Lm
  refine Ax a1 (Ax (L6 hs h _) ?_)
  by_cases h0 : (JV s (Kz home a b)).2.2 = 0
  · rw [if_neg (by simp [h0])]
    simp [h0]
  · rw [if_pos (by simp [h0])]
    simp [h0]
theorem OG {s : Am} (hs : s.CV.length = 32) (h : ∀ p ∈ s.Bi, p.length = 32) {home : Int} (hh : E5 .u32 home) {a : List UInt8} (ha : a.length = 32) (w : Int) : FI none s home a w = some ((JR s home a w).1, (JR s home a w).2.1, (JR s home a w).2.2, none) := by
  obtain ⟨L1, a1, a2⟩ := NI none (home := home) (NG hh) ha w
  obtain rfl := a2 rfl
  unfold FI JR
  refine Ax a1 (Ax (L6 hs h _) ?_)
  by_cases h0 : (JV s (Ks home a w)).2.2 = 0
  · rw [if_neg (by simp [h0])]
    simp [h0]
  · rw [if_pos (by simp [h0])]
    simp [h0]
end
end Go.Proofs.YteboiefnflipjaaGreatDoor
