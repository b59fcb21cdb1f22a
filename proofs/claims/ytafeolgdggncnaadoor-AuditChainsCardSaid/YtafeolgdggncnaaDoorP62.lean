/- Plain laws: P1, P62, as one text. -/
import Derived.Test.YtafeolgdggncnaaDoorG4
namespace Go.Proofs.YtafeolgdggncnaaDoor
open Go Go.RowKit Go.Proofs
section
set_option linter.unusedVariables false

theorem bind_of {α β : Type} {o : Option α} {f : α → Option β} {x : α} {r : Option β} (h : o = some x) (h2 : f x = r) : o.bind f = r := by subst h; exact h2
theorem bind_next {R S T : Type} {o : Option (Ctl R S)} {k : Ctl R S → Option T} {s : S} {r : Option T} (h : o = some (.next s)) (h2 : k (.next s) = r) : o.bind k = r := by subst h; exact h2
theorem loop_ok {R S : Type} {body : S → Option (Flow R S)} (I : S → Prop) (Q : Ctl R S → Prop) (m : S → Nat)
    (h : ∀ s, I s → (∃ s', body s = some (.cont s') ∧ I s' ∧ m s' < m s) ∨ (∃ s', body s = some (.brk s') ∧ Q (.next s')) ∨ ∃ r, body s = some (.ret r) ∧ Q (.ret r)) :
    ∀ (k : Nat) (s : S), I s → m s < k → ∃ c, loopN body k s = some c ∧ Q c
  | 0, s, _, hk => by omega
  | k + 1, s, hI, hk => by
    unfold loopN
    rcases h s hI with ⟨s', h1, h2, h3⟩ | ⟨s', h1, h2⟩ | ⟨r, h1, h2⟩
    · rw [h1]; exact loop_ok I Q m h k s' h2 (by omega)
    · rw [h1]; exact ⟨_, rfl, h2⟩
    · rw [h1]; exact ⟨_, rfl, h2⟩
theorem w64 {x : Int} (h : -9223372036854775808 ≤ x ∧ x ≤ 9223372036854775807) : IntKind.wrap .i64 x = x := by
  simp only [IntKind.wrap, IntKind.bits, IntKind.signed]
  simp
  omega
end

section
set_option linter.unusedVariables false

/-- The first place of a kind, or -1. -/
def fd (p : Nat → Bool) : Nat → Int
  | 0 => -1
  | n + 1 => if 0 ≤ fd p n then fd p n else if p n = true then (n : Int) else -1
theorem fd_range (p : Nat → Bool) : ∀ n, -1 ≤ fd p n ∧ fd p n < n
  | 0 => by simp [fd]
  | n + 1 => by
    have := fd_range p n
    unfold fd
    split
    · omega
    · split <;> omega
theorem fd_stay (p : Nat → Bool) (i : Nat) (h : 0 ≤ fd p i) : ∀ k, fd p (i + k) = fd p i
  | 0 => rfl
  | k + 1 => by
    show fd p (i + k + 1) = _
    rw [fd, fd_stay p i h k, if_pos h]
theorem fd_neg (p : Nat → Bool) : ∀ n, ¬ 0 ≤ fd p n ↔ ∀ i, i < n → p i = false
  | 0 => by simp [fd]
  | n + 1 => by
    have ih := fd_neg p n
    unfold fd
    by_cases a : 0 ≤ fd p n
    · rw [if_pos a]
      refine ⟨fun h => absurd a h, fun h => ?_⟩
      exact absurd a (ih.2 fun i hi => h i (by omega))
    · rw [if_neg a]
      by_cases b : p n = true
      · rw [if_pos b]
        refine ⟨fun h => absurd (by omega) h, fun h => ?_⟩
        rw [h n (by omega)] at b; cases b
      · rw [if_neg b]
        refine ⟨fun _ i hi => ?_, fun _ => by decide⟩
        by_cases e : i = n
        · subst e; simpa using b
        · exact ih.1 a i (by omega)
/-- A loop that hands back what it finds first. -/
theorem loop_fd {R : Type} (mk : Int → R) {body : Int → Option (Flow R Int)} {p : Nat → Bool} {n k : Nat} (h : ∀ i : Nat, i < n → body (i : Int) = if p i = true then some (.ret (mk i)) else some (.cont ((i : Int) + 1))) (he : body (n : Int) = some (.brk (n : Int))) (hk : n < k) :
    loopN body k 0 = some (if 0 ≤ fd p n then .ret (mk (fd p n)) else .next (n : Int)) := by
  obtain ⟨c, h1, h2⟩ := loop_ok (body := body) (fun s => ∃ i : Nat, i ≤ n ∧ s = (i : Int) ∧ ¬ 0 ≤ fd p i) (fun c => c = if 0 ≤ fd p n then .ret (mk (fd p n)) else .next (n : Int)) (fun s => (n - s).toNat)
    (fun s ⟨i, hi, hs, hf⟩ => by
      subst hs
      by_cases q : i < n
      · have hb := h i q
        by_cases w : p i = true
        · rw [if_pos w] at hb
          have e : fd p (i + 1) = (i : Int) := by rw [fd, if_neg hf, if_pos w]
          have st := fd_stay p (i + 1) (by omega) (n - (i + 1))
          rw [show i + 1 + (n - (i + 1)) = n by omega, e] at st
          refine .inr (.inr ⟨_, hb, ?_⟩)
          rw [st, if_pos (by omega)]
        · rw [if_neg w] at hb
          refine .inl ⟨_, hb, ⟨i + 1, by omega, by omega, ?_⟩, by omega⟩
          rw [fd, if_neg hf, if_neg w]; decide
      · have : i = n := by omega
        subst this
        exact .inr (.inl ⟨_, he, by rw [if_neg hf]⟩)) k 0 ⟨0, by omega, rfl, by simp [fd]⟩ (by omega)
  rw [h1, h2]
theorem loop_it2 {R S : Type} {body : S × Int → Option (Flow R (S × Int))} (f : Nat → S → S) {n k : Nat} {s0 : S} (h : ∀ (i : Nat) (s : S), i < n → s = (List.range i).foldl (fun a j => f j a) s0 → body (s, (i : Int)) = some (.cont (f i s, (i : Int) + 1))) (he : body ((List.range n).foldl (fun a j => f j a) s0, (n : Int)) = some (.brk ((List.range n).foldl (fun a j => f j a) s0, (n : Int)))) (hk : n < k) :
    loopN body k (s0, 0) = some (.next ((List.range n).foldl (fun a j => f j a) s0, (n : Int))) := by
  obtain ⟨c, h1, h2⟩ := loop_ok (body := body) (fun s => ∃ i : Nat, i ≤ n ∧ s = ((List.range i).foldl (fun a j => f j a) s0, (i : Int))) (fun c => c = .next ((List.range n).foldl (fun a j => f j a) s0, (n : Int))) (fun s => (n - s.2).toNat)
    (fun s ⟨i, hi, hs⟩ => by
      subst hs
      by_cases q : i < n
      · refine .inl ⟨_, h i _ q rfl, ⟨i + 1, by omega, ?_⟩, by show ((n : Int) - ((i : Int) + 1)).toNat < ((n : Int) - (i : Int)).toNat; omega⟩
        rw [List.range_succ, List.foldl_append]
        rfl
      · have : i = n := by omega
        subst this
        exact .inr (.inl ⟨_, he, rfl⟩)) k (s0, 0) ⟨0, by omega, rfl⟩ (by show ((n : Int) - 0).toNat < k; omega)
  rw [h1, h2]
theorem loop_inv {R S : Type} {body : Int × S → Option (Flow R (Int × S))} (I : Nat → S → Prop) {n k : Nat} {s0 : S} (h0 : I 0 s0) (h : ∀ (i : Nat) (s : S), i < n → I i s → ∃ s', body ((i : Int), s) = some (.cont ((i : Int) + 1, s')) ∧ I (i + 1) s') (he : ∀ s, I n s → body ((n : Int), s) = some (.brk ((n : Int), s))) (hk : n < k) :
    ∃ s, loopN body k (0, s0) = some (.next ((n : Int), s)) ∧ I n s := by
  obtain ⟨c, h1, h2⟩ := loop_ok (body := body) (fun s => ∃ i : Nat, i ≤ n ∧ s.1 = (i : Int) ∧ I i s.2) (fun c => ∃ s, c = .next ((n : Int), s) ∧ I n s) (fun s => (n - s.1).toNat)
    (fun s ⟨i, hi, hs, hI⟩ => by
      obtain ⟨s1, s2⟩ := s
      simp only at hs hI
      subst hs
      by_cases q : i < n
      · obtain ⟨s', e1, e2⟩ := h i s2 q hI
        exact .inl ⟨_, e1, ⟨i + 1, by omega, rfl, e2⟩, by show ((n : Int) - ((i : Int) + 1)).toNat < ((n : Int) - (i : Int)).toNat; omega⟩
      · have : i = n := by omega
        subst this
        exact .inr (.inl ⟨_, he s2 hI, s2, rfl, hI⟩)) k (0, s0) ⟨0, by omega, rfl, h0⟩ (by show ((n : Int) - 0).toNat < k; omega)
  obtain ⟨s, rfl, h3⟩ := h2
  exact ⟨s, h1, h3⟩
theorem lcW {R S : Type} {body : S → Option (Flow R S)} (k : Nat) {s s' : S} {r : Option (Ctl R S)} (h1 : body s = some (.cont s')) (h2 : loopN body k s' = r) : loopN body (k + 1) s = r := by
  unfold loopN
  rw [h1]
  exact h2
theorem lbW {R S : Type} {body : S → Option (Flow R S)} (k : Nat) {s s' : S} (h1 : body s = some (.brk s')) : loopN body (k + 1) s = some (.next s') := by
  unfold loopN
  rw [h1]
end
end Go.Proofs.YtafeolgdggncnaaDoor
