/- Plain laws: P1, P62, as one text. -/
import Derived.Test.YtafeolgdggncnaaDoorG3
namespace Go.Proofs.YtafeolgdggncnaaDoor
open Go Go.RowKit Go.Proofs
section
set_option linter.unusedVariables false

theorem bind_of {α β : Type} {o : Option α} {f : α → Option β} {x : α} {r : Option β} (h : o = some x) (h2 : f x = r) : o.bind f = r := by subst h; exact h2
theorem bind_next {R S T : Type} {o : Option (Ctl R S)} {k : Ctl R S → Option T} {s : S} {r : Option T} (h : o = some (.next s)) (h2 : k (.next s) = r) : o.bind k = r := by subst h; exact h2
theorem loop_ok {R S : Type} {body : S → Option (Flow R S)} (I : S → Prop) (Q : Ctl R S → Prop) (m : S → Nat)
    (h : ∀ s, I s → (∃ s', body s = some (.cont s') ∧ I s' ∧ m s' < m s) ∨ (∃ s', body s = some (.brk s') ∧ Q (.next s')) ∨ ∃ r, body s = some (.ret r) ∧ Q (.ret r)) :
    ∀ (k : Nat) (s : S), I s → m s < k → ∃ c, loopN body k s = some c ∧ Q c
  | 0, s, _, hk => by omega
  | k + 1, s, hI, hk => by
    unfold loopN
    rcases h s hI with ⟨s', h1, h2, h3⟩ | ⟨s', h1, h2⟩ | ⟨r, h1, h2⟩
    · rw [h1]; exact loop_ok I Q m h k s' h2 (by omega)
    · rw [h1]; exact ⟨_, rfl, h2⟩
    · rw [h1]; exact ⟨_, rfl, h2⟩
theorem w64 {x : Int} (h : -9223372036854775808 ≤ x ∧ x ≤ 9223372036854775807) : IntKind.wrap .i64 x = x := by
  simp only [IntKind.wrap, IntKind.bits, IntKind.signed]
  simp
  omega
end

section
set_option linter.unusedVariables false

/-- The first place of a kind, or -1. -/
def fd (p : Nat → Bool) : Nat → Int
  | 0 => -1
  | n + 1 => if 0 ≤ fd p n then fd p n else if p n = true then (n : Int) else -1
theorem fd_range (p : Nat → Bool) : ∀ n, -1 ≤ fd p n ∧ fd p n < n
  | 0 => by simp [fd]
  | n + 1 => by
    have := fd_range p n
    unfold fd
    split
    · omega
    · split <;> omega
theorem fd_stay (p : Nat → Bool) (i : Nat) (h : 0 ≤ fd p i) : ∀ k, fd p (i + k) = fd p i
  | 0 => rfl
  | k + 1 => by
    show fd p (i + k + 1) = _
    rw [fd, fd_stay p i h k, if_pos h]
theorem fd_neg (p : Nat → Bool) : ∀ n, ¬ 0 ≤ fd p n ↔ ∀ i, i < n → p i = false
  | 0 => by simp [fd]
  | n + 1 => by
    have ih := fd_neg p n
    unfold fd
    by_cases a : 0 ≤ fd p n
    · rw [if_pos a]
      refine ⟨fun h => absurd a h, fun h => ?_⟩
      exact absurd a (ih.2 fun i hi => h i (by omega))
    · rw [if_neg a]
      by_cases b : p n = true
      · rw [if_pos b]
        refine ⟨fun h => absurd (by omega) h, fun h => ?_⟩
        rw [h n (by omega)] at b; cases b
      · rw [if_neg b]
        refine ⟨fun _ i hi => ?_, fun _ => by decide⟩
        by_cases e : i = n
        · subst e; simpa using b
        · exact ih.1 a i (by omega)
theorem fd_congr {p q : Nat → Bool} : ∀ n, (∀ i, i < n → p i = q i) → fd p n = fd q n
  | 0, _ => rfl
  | n + 1, h => by rw [fd, fd, fd_congr n fun i hi => h i (by omega), h n (by omega)]
/-- A loop that hands back what it finds first. -/
theorem loop_fd {R : Type} (mk : Int → R) {body : Int → Option (Flow R Int)} {p : Nat → Bool} {n k : Nat} (h : ∀ i : Nat, i < n → body (i : Int) = if p i = true then some (.ret (mk i)) else some (.cont ((i : Int) + 1))) (he : body (n : Int) = some (.brk (n : Int))) (hk : n < k) :
    loopN body k 0 = some (if 0 ≤ fd p n then .ret (mk (fd p n)) else .next (n : Int)) := by
  obtain ⟨c, h1, h2⟩ := loop_ok (body := body) (fun s => ∃ i : Nat, i ≤ n ∧ s = (i : Int) ∧ ¬ 0 ≤ fd p i) (fun c => c = if 0 ≤ fd p n then .ret (mk (fd p n)) else .next (n : Int)) (fun s => (n - s).toNat)
    (fun s ⟨i, hi, hs, hf⟩ => by
      subst hs
      by_cases q : i < n
      · have hb := h i q
        by_cases w : p i = true
        · rw [if_pos w] at hb
          have e : fd p (i + 1) = (i : Int) := by rw [fd, if_neg hf, if_pos w]
          have st := fd_stay p (i + 1) (by omega) (n - (i + 1))
          rw [show i + 1 + (n - (i + 1)) = n by omega, e] at st
          refine .inr (.inr ⟨_, hb, ?_⟩)
          rw [st, if_pos (by omega)]
        · rw [if_neg w] at hb
          refine .inl ⟨_, hb, ⟨i + 1, by omega, by omega, ?_⟩, by omega⟩
          rw [fd, if_neg hf, if_neg w]; decide
      · have : i = n := by omega
        subst this
        exact .inr (.inl ⟨_, he, by rw [if_neg hf]⟩)) k 0 ⟨0, by omega, rfl, by simp [fd]⟩ (by omega)
  rw [h1, h2]
theorem loop_it2 {R S : Type} {body : S × Int → Option (Flow R (S × Int))} (f : Nat → S → S) {n k : Nat} {s0 : S} (h : ∀ (i : Nat) (s : S), i < n → s = (List.range i).foldl (fun a j => f j a) s0 → body (s, (i : Int)) = some (.cont (f i s, (i : Int) + 1))) (he : body ((List.range n).foldl (fun a j => f j a) s0, (n : Int)) = some (.brk ((List.range n).foldl (fun a j => f j a) s0, (n : Int)))) (hk : n < k) :
    loopN body k (s0, 0) = some (.next ((List.range n).foldl (fun a j => f j a) s0, (n : Int))) := by
  obtain ⟨c, h1, h2⟩ := loop_ok (body := body) (fun s => ∃ i : Nat, i ≤ n ∧ s = ((List.range i).foldl (fun a j => f j a) s0, (i : Int))) (fun c => c = .next ((List.range n).foldl (fun a j => f j a) s0, (n : Int))) (fun s => (n - s.2).toNat)
    (fun s ⟨i, hi, hs⟩ => by
      subst hs
      by_cases q : i < n
      · refine .inl ⟨_, h i _ q rfl, ⟨i + 1, by omega, ?_⟩, by show ((n : Int) - ((i : Int) + 1)).toNat < ((n : Int) - (i : Int)).toNat; omega⟩
        rw [List.range_succ, List.foldl_append]
        rfl
      · have : i = n := by omega
        subst this
        exact .inr (.inl ⟨_, he, rfl⟩)) k (s0, 0) ⟨0, by omega, rfl⟩ (by show ((n : Int) - 0).toNat < k; omega)
  rw [h1, h2]
theorem foldl_stop {S : Type} (f : Nat → S → S) {m : Nat} (h : ∀ i, m ≤ i → ∀ a, f i a = a) (s0 : S) : ∀ k, (List.range (m + k)).foldl (fun a j => f j a) s0 = (List.range m).foldl (fun a j => f j a) s0
  | 0 => rfl
  | k + 1 => by
    rw [← Nat.add_assoc, List.range_succ, List.foldl_append, foldl_stop f h s0 k]
    exact h (m + k) (by omega) _
/-- Is there one of a kind? -/
def anyB (p : Nat → Bool) (n : Nat) : Bool := decide (0 ≤ fd p n)
theorem foldl_or (p : Nat → Bool) : ∀ n, (List.range n).foldl (fun (a : Bool) j => a || p j) false = anyB p n
  | 0 => rfl
  | n + 1 => by
    rw [List.range_succ, List.foldl_append, foldl_or p n]
    show (anyB p n || p n) = anyB p (n + 1)
    unfold anyB
    rw [fd]
    by_cases a : 0 ≤ fd p n
    · simp [a]
    · rw [if_neg a]
      by_cases b : p n = true
      · rw [if_pos b]; simp [b]
      · rw [if_neg b]; simp [a, b]
end
end Go.Proofs.YtafeolgdggncnaaDoor
