/- Plain law of LamportSigns: what any key reveals of any digest, and the word that anything is opened to. -/
import Derived.Test.YtbhehllkimedaaaDoorP11
import Derived.Test.YtbhehllkimedaaaDoorP7b
namespace Go.Proofs.YtbhehllkimedaaaDoor
open Go Go.RowKit Go.Proofs
set_option linter.unusedVariables false

theorem newS : digest_New = some ⟨[], []⟩ := rfl
theorem rsign_eq {seed : List UInt8} (h : seed.length = 32) (idx : Int) (d : List UInt8) {Q : O_RLog} {n : Nat} (A : RefOk Q n) (hn : n < 300) : ∃ Q', ref05_Sign (some Q) seed idx d = some (sgP seed idx d, sgO seed idx d, some Q') ∧ Grow Q n Q' (n + 96) := by
  obtain ⟨c, h1, h2⟩ := loop_ok (body := fun s : Int × (Option O_RLog) × (List (List UInt8)) × (List (List UInt8)) => ref05_Sign.b1 seed idx d s.1 s.2.1 s.2.2.1 s.2.2.2)
    (fun s => ∃ (i : Nat) (Q' : O_RLog), i ≤ 32 ∧ s = ((i : Int), some Q', (List.range i).map (fun (i : Nat) => sec seed idx (i : Int) (bitv d (i : Int))), (List.range i).map fun (i : Nat) => pub (sec seed idx (i : Int) (1 - bitv d (i : Int)))) ∧ Grow Q n Q' (n + 3 * i))
    (fun c => match c with | .next s => ∃ Q', s.2 = (some Q', sgP seed idx d, sgO seed idx d) ∧ Grow Q n Q' (n + 96) | .ret _ => False) (fun s => (32 - s.1).toNat)
    (fun s ⟨i, Q', hi, hs, hg⟩ => by
      subst hs
      by_cases hlt : i < 32
      · obtain ⟨hb, hb2⟩ := bit_eq d i (by omega)
        obtain ⟨Q1, a1, a2, _⟩ := rsecret_eq hg.ok (by omega) h idx (i : Int) 0
        obtain ⟨Q2, b1, b2, _⟩ := rsecret_eq a2.ok (by omega) h idx (i : Int) 1
        have hstep : ∃ Q3, ref05_Sign.b1 seed idx d i (some Q') ((List.range i).map (fun (i : Nat) => sec seed idx (i : Int) (bitv d (i : Int)))) ((List.range i).map fun (i : Nat) => pub (sec seed idx (i : Int) (1 - bitv d (i : Int)))) =
            some (.cont (((i + 1 : Nat) : Int), some Q3, (List.range (i + 1)).map (fun (i : Nat) => sec seed idx (i : Int) (bitv d (i : Int))), (List.range (i + 1)).map fun (i : Nat) => pub (sec seed idx (i : Int) (1 - bitv d (i : Int))))) ∧ Grow Q n Q3 (n + 3 * i + 1 + 1 + 1) := by
          rw [List.range_succ, List.map_append, List.map_append]
          rcases hb2 with e | e
          · obtain ⟨Q3, c1, c2, _⟩ := rpublic_eq b2.ok (by omega) (sec_len h idx (i : Int) 1)
            refine ⟨Q3, ?_, ((hg.trans a2).trans b2).trans c2⟩
            unfold ref05_Sign.b1
            rw [if_pos (by simp; omega)]
            refine bind_of a1 ?_
            refine bind_of b1 ?_
            refine bind_of ((rbit_eq d i).1.trans hb) ?_
            rw [if_pos (by simp [e]), if_pos (by simp [mxl]; omega)]
            refine bind_of c1 ?_
            rw [if_pos (by simp [mxl]; omega)]
            unfold ref05_Sign.j1
            rw [w64 (by omega)]
            simp [e]
          · obtain ⟨Q3, c1, c2, _⟩ := rpublic_eq b2.ok (by omega) (sec_len h idx (i : Int) 0)
            refine ⟨Q3, ?_, ((hg.trans a2).trans b2).trans c2⟩
            unfold ref05_Sign.b1
            rw [if_pos (by simp; omega)]
            refine bind_of a1 ?_
            refine bind_of b1 ?_
            refine bind_of ((rbit_eq d i).1.trans hb) ?_
            rw [if_neg (by simp [e]), if_pos (by simp [mxl]; omega)]
            refine bind_of c1 ?_
            rw [if_pos (by simp [mxl]; omega)]
            unfold ref05_Sign.j1
            rw [w64 (by omega)]
            simp [e]
        obtain ⟨Q3, g1, g2⟩ := hstep
        exact .inl ⟨_, g1, ⟨i + 1, Q3, by omega, rfl, g2⟩, by simp; omega⟩
      · have : i = 32 := by omega
        subst this
        refine .inr (.inl ⟨((32 : Nat), some Q', sgP seed idx d, sgO seed idx d), ?_, Q', rfl, hg⟩)
        show ref05_Sign.b1 seed idx d 32 _ _ _ = _
        unfold ref05_Sign.b1
        rw [if_neg (by simp)]
        rfl) ((32 - 0 : Int).toNat + 2) (0, some Q, [], []) ⟨0, Q, by omega, rfl, Grow.refl A⟩ (by simp)
  unfold ref05_Sign
  cases c with
  | ret r => exact h2.elim
  | next s =>
    obtain ⟨i, s2⟩ := s
    obtain ⟨Q', rfl, h3⟩ : ∃ Q', s2 = (some Q', sgP seed idx d, sgO seed idx d) ∧ Grow Q n Q' (n + 96) := h2
    refine ⟨Q', bind_next h1 ?_, h3⟩
    dsimp only
theorem same_eq (l : List (List UInt8)) (hl : l.length < 1000) : ref03_SameList l l = some true := by
  unfold ref03_SameList
  rw [if_neg (by simp)]
  obtain ⟨c, h1, h2⟩ := loop_ok (body := fun s : Int => ref03_SameList.b1 l l s) (fun s => ∃ i : Nat, i ≤ l.length ∧ s = (i : Int)) (fun c => match c with | .next _ => True | .ret _ => False) (fun s => (l.length - s).toNat)
    (fun s ⟨i, hi, hs⟩ => by
      subst hs
      unfold ref03_SameList.b1
      by_cases hlt : i < l.length
      · rw [if_pos (by simpa using hlt), if_pos (by omega), if_pos (by omega), if_neg (by simp), w64 (by omega)]
        exact .inl ⟨_, rfl, ⟨i + 1, by omega, rfl⟩, by omega⟩
      · rw [if_neg (by simpa using hlt)]
        exact .inr (.inl ⟨_, rfl, trivial⟩)) (((l.length : Int) - 0 : Int).toNat + 2) 0 ⟨0, by omega, rfl⟩ (by omega)
  cases c with
  | ret r => exact h2.elim
  | next s => exact bind_next h1 rfl
theorem lamportSigns_true (seed d : List UInt8) (idx : Int) (parts others : List (List UInt8)) (hs : seed.length = 32) (hd : d.length = 32) (hp : ∀ p ∈ parts, p.length = 32) (ho : ∀ p ∈ others, p.length = 32) : law05_LamportSigns seed d idx parts others = some true := by
  have hj : ∀ b, (b = false → parts.length ≤ 100 ∧ others.length ≤ 100) → law05_LamportSigns.j1 seed d idx parts others b = some true := by
    intro b hb
    unfold law05_LamportSigns.j1
    cases b with
    | true => rw [if_pos rfl]; refine bind_of awake5 rfl
    | false =>
      rw [if_neg (by simp)]
      obtain ⟨L1, a1, _⟩ := sign_eq (some ⟨[], []⟩) hs idx d
      obtain ⟨Q1, b1, b2⟩ := rsign_eq hs idx d refNew (by omega)
      have hO : ∃ w k L2 Q2, lamport_Opened L1 d parts others = some (w, k, L2) ∧ ref05_Opened (some Q1) d parts others = some (w, k, Q2) := by
        by_cases h : parts.length = 32 ∧ others.length = 32
        · obtain ⟨L2, c1, _⟩ := opened_eq L1 d ⟨h.1, hp⟩ ⟨h.2, ho⟩
          obtain ⟨Q2, d1, _⟩ := ropened_eq d ⟨h.1, hp⟩ ⟨h.2, ho⟩ b2.ok (by omega)
          exact ⟨_, _, _, _, c1, d1⟩
        · exact ⟨_, _, _, _, opened_no L1 d h, ropened_no (some Q1) d h⟩
      obtain ⟨w, k, L2, Q2, c1, d1⟩ := hO
      refine bind_of newS ?_
      refine bind_of new_r ?_
      refine bind_of a1 ?_
      refine bind_of b1 ?_
      refine bind_of c1 ?_
      refine bind_of d1 ?_
      refine bind_of awake5 ?_
      rw [if_pos rfl]
      refine bind_of (same_eq _ (by rw [(sgP_len hs idx d).1]; decide)) ?_
      rw [if_pos rfl]
      refine bind_of (same_eq _ (by rw [(sgO_len hs idx d).1]; decide)) ?_
      rw [if_pos rfl, if_pos (by simp)]
      unfold law05_LamportSigns.j2
      simp
  unfold law05_LamportSigns
  refine bind_of awake5 ?_
  rw [if_neg (by simp)]
  by_cases h1 : (100 : Int) < (parts.length : Int)
  · rw [if_pos (by simpa using h1)]
    exact hj _ (fun h => by cases h)
  · rw [if_neg (by simpa using h1)]
    exact hj _ (fun h => by simp at h; omega)
end Go.Proofs.YtbhehllkimedaaaDoor
