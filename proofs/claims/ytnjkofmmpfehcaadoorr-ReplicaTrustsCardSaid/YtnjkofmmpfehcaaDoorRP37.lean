/- Plain laws: P32, P35a, P35, P37, as one text. -/
import Derived.Test.YtnjkofmmpfehcaaDoorRP23a
import Derived.Test.YtnjkofmmpfehcaaDoorRP23a
import Derived.Test.YtnjkofmmpfehcaaDoorRP10
import Derived.Test.YtnjkofmmpfehcaaDoorRP23
import Derived.Test.YtnjkofmmpfehcaaDoorRP13b
import Derived.Test.YtnjkofmmpfehcaaDoorRP13b
namespace Go.Proofs.YtnjkofmmpfehcaaDoorR
open Go Go.RowKit Go.Proofs
section
set_option linter.unusedVariables false

end

section
set_option linter.unusedVariables false

/-- The levels above leaves. -/
noncomputable def lvs (l : List (List UInt8)) : Nat → List (List UInt8)
  | 0 => l
  | k + 1 => upL (lvs l k)
theorem lvs_len {l : List (List UInt8)} (hl : l.length = 16) (h : ∀ p ∈ l, p.length = 32) : ∀ k, k ≤ 4 → (lvs l k).length = 2 ^ (4 - k) ∧ ∀ p ∈ lvs l k, p.length = 32
  | 0, _ => ⟨hl, h⟩
  | k + 1, hk => by
    obtain ⟨h1, h2⟩ := lvs_len hl h k (by omega)
    obtain ⟨h3, h4⟩ := upL_len h2
    refine ⟨?_, h4⟩
    show (upL (lvs l k)).length = _
    rw [h3, h1, show 4 - k = (4 - (k + 1)) + 1 by omega, Nat.pow_succ]
    omega
theorem pow_le (k : Nat) (hk : k < 4) : 2 ^ (4 - k) = 2 * 2 ^ (4 - (k + 1)) := by rw [show 4 - k = (4 - (k + 1)) + 1 by omega, Nat.pow_succ]; omega
end

section
set_option linter.unusedVariables false

/-- The nodes of a subtree are noted. -/
def NotedT (Q : O_RLog) (l : List (List UInt8)) (level at_ : Nat) : Prop := ∀ k j, k < level → at_ * 2 ^ (level - 1 - k) ≤ j → j < (at_ + 1) * 2 ^ (level - 1 - k) → Noted Q (inp 4 [(lvs l k).getD (2 * j) default, (lvs l k).getD (2 * j + 1) default])
theorem NotedT.mono {Q Q' : O_RLog} {l : List (List UInt8)} {level at_ : Nat} (h : NotedT Q l level at_) (hg : ∀ y, Noted Q y → Noted Q' y) : NotedT Q' l level at_ := fun k j h1 h2 h3 => hg _ (h k j h1 h2 h3)
end

section
set_option linter.unusedVariables false

/-- The nodes of a climb are noted. -/
def NotedC (Q : O_RLog) : List (List UInt8) → Nat → List UInt8 → Prop
  | [], _, _ => True
  | p :: ps, n, w => Noted Q (inp 4 (if n % 2 = 1 then [p, w] else [w, p])) ∧ NotedC Q ps (n / 2) (if n % 2 = 1 then nd p w else nd w p)
theorem NotedC.mono {Q Q' : O_RLog} (hg : ∀ y, Noted Q y → Noted Q' y) : ∀ {ps : List (List UInt8)} {n : Nat} {w : List UInt8}, NotedC Q ps n w → NotedC Q' ps n w
  | [], _, _, _ => trivial
  | _ :: _, _, _, h => ⟨hg _ h.1, NotedC.mono hg h.2⟩
theorem NotedC.split {Q : O_RLog} : ∀ {ps qs : List (List UInt8)} {n : Nat} {w : List UInt8}, NotedC Q ps n w → NotedC Q qs (n / 2 ^ ps.length) (climbV ps n w) → NotedC Q (ps ++ qs) n w
  | [], qs, n, w, _, h => by simpa [climbV] using h
  | p :: ps, qs, n, w, h, k => by
    refine ⟨h.1, NotedC.split h.2 ?_⟩
    rw [climbV] at k
    rw [List.length_cons, Nat.pow_succ, Nat.mul_comm, ← Nat.div_div_eq_div_mul] at k
    exact k
/-- The nodes of one level are noted. -/
def NotedL (Q : O_RLog) (l : List (List UInt8)) : Prop := ∀ j, j < l.length / 2 → Noted Q (inp 4 [l.getD (2 * j) default, l.getD (2 * j + 1) default])
theorem NotedT.level {Q : O_RLog} {l : List (List UInt8)} (hl : l.length = 16) (h : ∀ p ∈ l, p.length = 32) (hN : NotedT Q l 4 0) (k : Nat) (hk : k < 4) : NotedL Q (lvs l k) := fun j hj => by
  have h1 := (lvs_len hl h k (by omega)).1
  have := pow_le k hk
  exact hN k j hk (by omega) (by rw [show 4 - 1 - k = 4 - (k + 1) by omega]; omega)
end
end Go.Proofs.YtnjkofmmpfehcaaDoorR
