/- Plain law: the program's SHA-256 and the document's answer alike. -/
import Derived.Test.YtamnmljgcmbliaaDoorP1
import Derived.Laws.BitsLemmas
namespace Go.Proofs.YtamnmljgcmbliaaDoor
open Go Go.RowKit Go.Proofs
set_option linter.unusedVariables false

def iter {σ : Type} (f : Nat → σ → σ) : Nat → Nat → σ → σ
  | _, 0, s => s
  | i, m + 1, s => iter f (i + 1) m (f i s)
theorem iter_add {σ : Type} (f : Nat → σ → σ) : ∀ (m n i : Nat) (s : σ), iter f i (m + n) s = iter f (i + m) n (iter f i m s)
  | 0, n, i, s => by simp [iter]
  | m + 1, n, i, s => by
    rw [Nat.add_right_comm, iter, iter_add f m n (i + 1) (f i s)]
    simp [iter, Nat.add_assoc, Nat.add_comm 1 m]
theorem iter_congr {σ : Type} {f g : Nat → σ → σ} : ∀ (m i : Nat) (s : σ), (∀ j, i ≤ j → j < i + m → ∀ s, f j s = g j s) → iter f i m s = iter g i m s
  | 0, i, s, _ => rfl
  | m + 1, i, s, h => by
    rw [iter, iter, h i (Nat.le_refl _) (by omega), iter_congr m (i + 1) (g i s) fun j h1 h2 => h j (by omega) (by omega)]
/-- A counting loop. -/
theorem loop_for {R σ : Type} {body : Int × σ → Option (Flow R (Int × σ))} (I : σ → Prop) (f : Nat → σ → σ) (n : Nat)
    (hs : ∀ (i : Nat) (s : σ), i < n → I s → body ((i : Int), s) = some (.cont (((i + 1 : Nat) : Int), f i s)) ∧ I (f i s)) (he : ∀ s, body ((n : Int), s) = some (.brk ((n : Int), s))) :
    ∀ (m i : Nat) (s : σ) (k : Nat), i + m = n → I s → m < k → loopN body k ((i : Int), s) = some (.next ((n : Int), iter f i m s)) ∧ I (iter f i m s)
  | 0, i, s, k + 1, h, hI, _ => by
    have : i = n := by omega
    subst this
    unfold loopN
    rw [he]
    exact ⟨rfl, hI⟩
  | m + 1, i, s, k + 1, h, hI, hk => by
    obtain ⟨h1, h2⟩ := hs i s (by omega) hI
    unfold loopN
    rw [h1]
    exact loop_for I f n hs he m (i + 1) (f i s) k (by omega) h2 (by omega)
theorem or_comm32 (a b : Int) : bits .or .u32 a b = bits .or .u32 b a := by
  simp only [bits]
  rw [BitVec.or_comm]
theorem wraps_u32 (n : Int) (h₀ : 0 ≤ n) (h₁ : n < 2 ^ 32) : IntKind.u32.wrap n = n := by rw [IntKind.wrap_u32]; omega
theorem word_eq (b0 b1 b2 b3 : Nat) (h0 : b0 < 256) (h1 : b1 < 256) (h2 : b2 < 256) (h3 : b3 < 256) :
    bits .or .u32 (bits .or .u32 (bits .or .u32 (shl .u32 (IntKind.wrap .u32 (b0 : Int)) 24) (shl .u32 (IntKind.wrap .u32 (b1 : Int)) 16)) (shl .u32 (IntKind.wrap .u32 (b2 : Int)) 8)) (IntKind.wrap .u32 (b3 : Int)) =
      IntKind.wrap .u32 ((IntKind.wrap .u32 ((IntKind.wrap .u32 ((IntKind.wrap .u32 ((IntKind.wrap .u32 (b0 : Int)) * 16777216)) + (IntKind.wrap .u32 ((IntKind.wrap .u32 (b1 : Int)) * 65536)))) + (IntKind.wrap .u32 ((IntKind.wrap .u32 (b2 : Int)) * 256)))) + (IntKind.wrap .u32 (b3 : Int))) := by
  have e24 : ∀ x : Int, shl .u32 x 24 = IntKind.wrap .u32 (x * 16777216) := fun x => rfl
  have e16 : ∀ x : Int, shl .u32 x 16 = IntKind.wrap .u32 (x * 65536) := fun x => rfl
  have e8 : ∀ x : Int, shl .u32 x 8 = IntKind.wrap .u32 (x * 256) := fun x => rfl
  rw [e24, e16, e8]
  simp (disch := omega) only [wraps_u32]
  rw [bits_join .u32 32 (by decide) wraps_u32 24 ((b0 : Int) * 16777216) ((b1 : Int) * 65536) (by omega) (by omega) (by omega) (by omega) (by omega) (by omega),
    bits_join .u32 32 (by decide) wraps_u32 16 ((b0 : Int) * 16777216 + (b1 : Int) * 65536) ((b2 : Int) * 256) (by omega) (by omega) (by omega) (by omega) (by omega) (by omega),
    bits_join .u32 32 (by decide) wraps_u32 8 ((b0 : Int) * 16777216 + (b1 : Int) * 65536 + (b2 : Int) * 256) (b3 : Int) (by omega) (by omega) (by omega) (by omega) (by omega) (by omega)]
end Go.Proofs.YtamnmljgcmbliaaDoor
