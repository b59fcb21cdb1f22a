/- Plain laws of the document's words and signatures. -/
import Derived.Test.YtbhehllkimedaaaDoorP8
namespace Go.Proofs.YtbhehllkimedaaaDoor
open Go Go.RowKit Go.Proofs
set_option linter.unusedVariables false

theorem Grow.trans {Q Q' Q'' : O_RLog} {n n' n'' : Nat} (h : Grow Q n Q' n') (k : Grow Q' n' Q'' n'') : Grow Q n Q'' n'' := ⟨k.ok, fun y hy => k.old y (h.old y hy)⟩
theorem Grow.refl {Q : O_RLog} {n : Nat} (h : RefOk Q n) : Grow Q n Q n := ⟨h, fun _ hy => hy⟩
/-- The inputs of a key's first k publics are noted. -/
def NotedW (Q : O_RLog) (seed : List UInt8) (idx : Int) (k : Nat) : Prop := ∀ j, j < k → Noted Q (inp 1 (secP seed idx ((j / 2 : Nat) : Int) ((j % 2 : Nat) : Int))) ∧ Noted Q (inp 2 [sec seed idx ((j / 2 : Nat) : Int) ((j % 2 : Nat) : Int)])
theorem NotedW.mono {Q Q' : O_RLog} {seed : List UInt8} {idx : Int} {k : Nat} (h : NotedW Q seed idx k) (hg : ∀ y, Noted Q y → Noted Q' y) : NotedW Q' seed idx k := fun j hj => ⟨hg _ (h j hj).1, hg _ (h j hj).2⟩
theorem pubs_at (seed : List UInt8) (idx : Int) (j : Nat) (hj : j < 64) : (pubs seed idx)[j]? = some (pub (sec seed idx ((j / 2 : Nat) : Int) ((j % 2 : Nat) : Int))) := by simp [pubs, hj]
theorem flat_succ (l : List (List UInt8)) (j : Nat) (x : List UInt8) (h : l[j]? = some x) : (l.take (j + 1)).flatten = (l.take j).flatten ++ x := by
  obtain ⟨hj, e⟩ := List.getElem?_eq_some_iff.1 h
  rw [List.take_succ_eq_append_getElem hj, List.flatten_append, e]
  simp only [List.flatten_cons, List.flatten_nil, List.append_nil]
theorem flat_take_len {l : List (List UInt8)} (h : ∀ p ∈ l, p.length = 32) (k : Nat) (hk : k ≤ l.length) : (l.take k).flatten.length = 32 * k := by
  rw [flat_len _ fun q hq => h q (List.mem_of_mem_take hq)]
  simp; omega
theorem rword_round {seed : List UInt8} (h : seed.length = 32) (idx : Int) (i b : Nat) (hi : i < 32) (hb : b < 2) {Q : O_RLog} {n : Nat} (A : RefOk Q n) (hn : n < 900) (hN : NotedW Q seed idx (2 * i + b)) :
    ∃ Q', ref05_Word.b2 seed idx (i : Int) (b : Int) (some Q) ((pubs seed idx).take (2 * i + b)).flatten = some (.cont (((b + 1 : Nat) : Int), some Q', ((pubs seed idx).take (2 * i + (b + 1))).flatten)) ∧ Grow Q n Q' (n + 2) ∧ NotedW Q' seed idx (2 * i + (b + 1)) := by
  obtain ⟨Q1, a1, a2, a3⟩ := rsecret_eq A (by omega) h idx (i : Int) (b : Int)
  obtain ⟨Q2, b1, b2, b3⟩ := rpublic_eq a2.ok (by omega) (sec_len h idx (i : Int) (b : Int))
  have hp := pubs_len h idx
  have hlen := flat_take_len hp.2 (2 * i + b) (by omega)
  have e1 : (2 * i + b) / 2 = i := by omega
  have e2 : (2 * i + b) % 2 = b := by omega
  have hat := pubs_at seed idx (2 * i + b) (by omega)
  rw [e1, e2] at hat
  have h32 := pub_len (sec_len h idx (i : Int) (b : Int))
  refine ⟨Q2, ?_, a2.trans b2, fun j hj => ?_⟩
  · unfold ref05_Word.b2
    rw [if_pos (by simp; omega)]
    refine bind_of a1 (bind_of b1 (bind_of (rdig_eq h32) ?_))
    rw [if_pos (by simp only [mxl]; omega), w64 (by omega), show 2 * i + (b + 1) = 2 * i + b + 1 by omega, flat_succ _ _ _ hat]
    rfl
  · by_cases hj2 : j < 2 * i + b
    · exact hN.mono (fun y hy => b2.old y (a2.old y hy)) j hj2
    · have : j = 2 * i + b := by omega
      subst this
      rw [e1, e2]
      exact ⟨b2.old _ a3, b3⟩
theorem rword_law {seed : List UInt8} (h : seed.length = 32) (idx : Int) {Q : O_RLog} {n : Nat} (A : RefOk Q n) (hn : n < 300) :
    ∃ Q', ref05_Word (some Q) seed idx = some (wordOf (pubs seed idx), some Q') ∧ Grow Q n Q' (n + 129) ∧ NotedW Q' seed idx 64 ∧ Noted Q' (inp 3 [(pubs seed idx).flatten]) := by
  obtain ⟨c, h1, h2⟩ := loop_ok (body := fun s : Int × (Option O_RLog) × (List (UInt8)) => ref05_Word.b1 seed idx s.1 s.2.1 s.2.2)
    (fun s => ∃ (i : Nat) (Q' : O_RLog), i ≤ 32 ∧ s = ((i : Int), some Q', ((pubs seed idx).take (2 * i)).flatten) ∧ Grow Q n Q' (n + 4 * i) ∧ NotedW Q' seed idx (2 * i))
    (fun c => match c with | .next s => ∃ Q', s.2 = (some Q', (pubs seed idx).flatten) ∧ Grow Q n Q' (n + 128) ∧ NotedW Q' seed idx 64 | .ret _ => False) (fun s => (32 - s.1).toNat)
    (fun s ⟨i, Q', hi, hs, hg, hN⟩ => by
      subst hs
      by_cases hlt : i < 32
      · obtain ⟨Q1, a1, a2, a3⟩ := rword_round h idx i 0 hlt (by omega) hg.ok (by omega) hN
        obtain ⟨Q2, b1, b2, b3⟩ := rword_round h idx i 1 hlt (by omega) a2.ok (by omega) a3
        refine .inl ⟨(((i + 1 : Nat) : Int), some Q2, ((pubs seed idx).take (2 * (i + 1))).flatten), ?_, ⟨i + 1, Q2, by omega, rfl, (hg.trans a2).trans b2, b3⟩, by simp; omega⟩
        show ref05_Word.b1 seed idx i (some Q') _ = _
        unfold ref05_Word.b1
        rw [if_pos (by simp; omega)]
        refine bind_next (s := (2, some Q2, ((pubs seed idx).take (2 * (i + 1))).flatten)) ?_ ?_
        · show loopN _ 4 _ = _
          refine loop_cont 3 a1 (loop_cont 2 b1 (loop_brk 1 ?_))
          show ref05_Word.b2 seed idx (i : Int) 2 _ _ = _
          unfold ref05_Word.b2
          rw [if_neg (by simp)]
          rfl
        · dsimp only
          rw [w64 (by omega)]
          rfl
      · have : i = 32 := by omega
        subst this
        refine .inr (.inl ⟨((32 : Nat), some Q', ((pubs seed idx).take (2 * 32)).flatten), ?_, Q', ?_, hg, hN⟩)
        · show ref05_Word.b1 seed idx 32 _ _ = _
          unfold ref05_Word.b1
          rw [if_neg (by simp)]
          rfl
        · rw [List.take_of_length_le (by rw [(pubs_len h idx).1]; decide)]) ((32 - 0 : Int).toNat + 2) (0, some Q, []) ⟨0, Q, by omega, rfl, Grow.refl A, fun j hj => by omega⟩ (by simp)
  unfold ref05_Word
  cases c with
  | ret r => exact h2.elim
  | next s =>
    obtain ⟨i, s2⟩ := s
    obtain ⟨Q', rfl, h3, h4⟩ : ∃ Q', s2 = (some Q', (pubs seed idx).flatten) ∧ Grow Q n Q' (n + 128) ∧ NotedW Q' seed idx 64 := h2
    obtain ⟨Q2, p1, p2, p3⟩ := rpair_eq h3.ok (by omega) (pubs_len h idx).1 (pubs_len h idx).2
    refine ⟨Q2, bind_next h1 ?_, h3.trans p2, h4.mono p2.old, p3⟩
    dsimp only
    rw [p1]
    simp only [Option.bind_some]
end Go.Proofs.YtbhehllkimedaaaDoor
