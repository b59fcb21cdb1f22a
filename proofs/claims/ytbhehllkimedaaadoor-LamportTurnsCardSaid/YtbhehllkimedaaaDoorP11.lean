/- Plain laws of the document's bits, openings and signatures. -/
import Derived.Test.YtbhehllkimedaaaDoorP10
namespace Go.Proofs.YtbhehllkimedaaaDoor
open Go Go.RowKit Go.Proofs
set_option linter.unusedVariables false

theorem w64n {n : Nat} (h : n < 9223372036854775808) : IntKind.wrap .i64 (n : Int) = (n : Int) := w64 (by omega)
theorem rbit_loop (a : Int) (k : Nat) (hk : IntKind.wrap .i64 (7 - (a.tmod 8)) = (k : Int)) (hk7 : k ≤ 7) (x : Nat) (hx : x < 256) : ∃ i, loopN (fun s : Int × Int => ref05_Bit.b1 a s.1 s.2) 100000 ((x : Int), 0) = some (.next (((x / 2 ^ k : Nat) : Int), i)) := by
  obtain ⟨c, h1, h2⟩ := loop_ok (body := fun s : Int × Int => ref05_Bit.b1 a s.1 s.2) (fun s => ∃ j : Nat, j ≤ k ∧ s = (((x / 2 ^ j : Nat) : Int), (j : Int))) (fun c => match c with | .next s => s.1 = ((x / 2 ^ k : Nat) : Int) | .ret _ => False) (fun s => (k - s.2).toNat)
    (fun s ⟨j, hj, hs⟩ => by
      subst hs
      by_cases hlt : j < k
      · refine .inl ⟨(((x / 2 ^ (j + 1) : Nat) : Int), ((j + 1 : Nat) : Int)), ?_, ⟨j + 1, by omega, rfl⟩, by simp; omega⟩
        show ref05_Bit.b1 a _ _ = _
        unfold ref05_Bit.b1
        have hd : x / 2 ^ j ≤ x := Nat.div_le_self _ _
        have e1 : ((x / 2 ^ j : Nat) : Int).tdiv 2 = ((x / 2 ^ (j + 1) : Nat) : Int) := by
          rw [Int.tdiv_eq_ediv_of_nonneg (Int.natCast_nonneg _), Nat.pow_succ, ← Nat.div_div_eq_div_mul]; simp
        have hd2 : x / 2 ^ (j + 1) ≤ x := Nat.div_le_self _ _
        rw [hk, if_pos (by simp; omega), e1, w64n (by omega), w64 (by omega)]
        rfl
      · have : j = k := by omega
        subst this
        refine .inr (.inl ⟨(((x / 2 ^ j : Nat) : Int), (j : Int)), ?_, rfl⟩)
        show ref05_Bit.b1 a _ _ = _
        unfold ref05_Bit.b1
        rw [hk, if_neg (by simp)]) 100000 ((x : Int), 0) ⟨0, by omega, by simp⟩ (by simp; omega)
  cases c with
  | ret r => exact h2.elim
  | next s =>
    obtain ⟨y, i⟩ := s
    have h2 : y = _ := h2
    subst h2
    exact ⟨i, h1⟩
theorem rbit_eq (d : List UInt8) (i : Int) : ref05_Bit d i = lamport_Bit d i ∧ ∃ b, lamport_Bit d i = some b := by
  unfold ref05_Bit lamport_Bit
  by_cases h0 : i < 0
  · rw [if_pos (by simpa using h0), if_pos (by simpa using h0)]
    exact ⟨rfl, _, rfl⟩
  · rw [if_neg (by simpa using h0), if_neg (by simpa using h0)]
    by_cases h1 : 256 ≤ i
    · unfold ref05_Bit.j1 lamport_Bit.j1
      rw [if_pos (by simp; omega), if_pos (by simp; omega)]
      exact ⟨rfl, _, rfl⟩
    · obtain ⟨n, rfl⟩ : ∃ n : Nat, i = (n : Int) := ⟨i.toNat, by omega⟩
      have e1 : (n : Int).tdiv 8 = ((n / 8 : Nat) : Int) := by rw [Int.tdiv_eq_ediv_of_nonneg (by omega)]; simp
      have e2 : (n : Int).tmod 8 = ((n % 8 : Nat) : Int) := by rw [Int.tmod_eq_emod_of_nonneg (by omega)]; simp
      have hk : IntKind.wrap .i64 (7 - ((n : Int).tmod 8)) = ((7 - n % 8 : Nat) : Int) := by rw [e2, w64 (by omega)]; omega
      have hq : IntKind.wrap .i64 ((n : Int).tdiv 8) = ((n / 8 : Nat) : Int) := by rw [e1, w64n (by omega)]
      have hx2 : (d.getD ((n / 8 : Nat) : Int).toNat 0).toNat < 256 := UInt8.toNat_lt _
      have hk7 : 7 - n % 8 ≤ 7 := by omega
      have hA : lamport_Bit.j1 d n (decide ((256 : Int) ≤ n)) = some ((((d.getD ((n / 8 : Nat) : Int).toNat 0).toNat / 2 ^ (7 - n % 8) : Nat) : Int) % 2) := by
        unfold lamport_Bit.j1
        rw [if_neg (by simp; omega), hk, hq, if_pos (by omega), if_pos (by omega)]
        generalize (d.getD ((n / 8 : Nat) : Int).toNat 0).toNat = x at *
        generalize 7 - n % 8 = k at *
        have hs : shr .u8 (x : Int) (k : Int) = ((x / 2 ^ k : Nat) : Int) := by
          unfold shr
          have : min (k : Int).toNat IntKind.u8.bits = k := by simp [IntKind.bits]; omega
          rw [this, Int.fdiv_eq_ediv_of_nonneg _ (by exact Int.le_of_lt (Int.pow_pos (by decide)))]
          simp
        have hd : x / 2 ^ k ≤ x := Nat.div_le_self _ _
        rw [hs, w64n (by omega), i64_and1]
      have hB : ref05_Bit.j1 d n (decide ((255 : Int) < n)) = some ((((d.getD ((n / 8 : Nat) : Int).toNat 0).toNat / 2 ^ (7 - n % 8) : Nat) : Int) % 2) := by
        unfold ref05_Bit.j1
        rw [if_neg (by simp; omega), hq, if_pos (by omega)]
        generalize (d.getD ((n / 8 : Nat) : Int).toNat 0).toNat = x at *
        generalize 7 - n % 8 = k at *
        obtain ⟨j, hl⟩ := rbit_loop n k hk hk7 x hx2
        rw [w64n (by omega)]
        refine bind_next hl ?_
        dsimp only
        rw [Int.tmod_eq_emod_of_nonneg (Int.natCast_nonneg _)]
      rw [hA, hB]
      exact ⟨rfl, _, rfl⟩
theorem opn_at (d : List UInt8) (parts others : List (List UInt8)) (j : Nat) (hj : j < 64) : (opn d parts others)[j]? = some (opnA d parts others j) := by simp [opn, hj]
theorem ropened_eq (d : List UInt8) {parts others : List (List UInt8)} (hp : parts.length = 32 ∧ ∀ p ∈ parts, p.length = 32) (ho : others.length = 32 ∧ ∀ p ∈ others, p.length = 32) {Q : O_RLog} {n : Nat} (A : RefOk Q n) (hn : n < 500) :
    ∃ Q', ref05_Opened (some Q) d parts others = some (wordOf (opn d parts others), true, some Q') ∧ Grow Q n Q' (n + 33) ∧ (∀ j, j < 32 → Noted Q' (inp 2 [parts.getD j default])) ∧ Noted Q' (inp 3 [(opn d parts others).flatten]) := by
  have hol := opn_len (d := d) hp ho
  obtain ⟨c, h1, h2⟩ := loop_ok (body := fun s : Int × (Option O_RLog) × (List (UInt8)) => ref05_Opened.b1 d parts others s.1 s.2.1 s.2.2)
    (fun s => ∃ (i : Nat) (Q' : O_RLog), i ≤ 32 ∧ s = ((i : Int), some Q', ((opn d parts others).take (2 * i)).flatten) ∧ Grow Q n Q' (n + i) ∧ ∀ j, j < i → Noted Q' (inp 2 [parts.getD j default]))
    (fun c => match c with | .next s => ∃ Q', s.2 = (some Q', (opn d parts others).flatten) ∧ Grow Q n Q' (n + 32) ∧ ∀ j, j < 32 → Noted Q' (inp 2 [parts.getD j default]) | .ret _ => False) (fun s => (32 - s.1).toNat)
    (fun s ⟨i, Q', hi, hs, hg, hN⟩ => by
      subst hs
      by_cases hlt : i < 32
      · obtain ⟨hb, hb2⟩ := bit_eq d i (by omega)
        have hpi : (parts.getD i default).length = 32 := by
          rw [show parts.getD i default = parts[i]'(by omega) from by simp [List.getD, show i < parts.length by omega]]
          exact hp.2 _ (List.getElem_mem _)
        have hoi : (others.getD i default).length = 32 := by
          rw [show others.getD i default = others[i]'(by omega) from by simp [List.getD, show i < others.length by omega]]
          exact ho.2 _ (List.getElem_mem _)
        have hoi' : (others.getD (i : Int).toNat default).length = 32 := hoi
        obtain ⟨Q1, a1, a2, a3⟩ := rpublic_eq hg.ok (by omega) hpi
        have k0 : opnA d parts others (2 * i) = if 0 = bitv d i then pub (parts.getD i default) else others.getD i default := by
          unfold opnA
          rw [show 2 * i % 2 = 0 by omega, show 2 * i / 2 = i by omega]
          rfl
        have k1 : opnA d parts others (2 * i + 1) = if 1 = bitv d i then pub (parts.getD i default) else others.getD i default := by
          unfold opnA
          rw [show (2 * i + 1) % 2 = 1 by omega, show (2 * i + 1) / 2 = i by omega]
          rfl
        have f1 := flat_succ _ _ _ (opn_at d parts others (2 * i) (by omega))
        have f2 := flat_succ _ _ _ (opn_at d parts others (2 * i + 1) (by omega))
        have hlen := flat_take_len hol.2 (2 * i) (by omega)
        have hpp := pub_len hpi
        have hstep : ref05_Opened.b1 d parts others i (some Q') ((opn d parts others).take (2 * i)).flatten = some (.cont (((i + 1 : Nat) : Int), some Q1, ((opn d parts others).take (2 * (i + 1))).flatten)) := by
          rw [show 2 * (i + 1) = 2 * i + 1 + 1 by omega, f2, f1]
          unfold ref05_Opened.b1
          rw [if_pos (by simp; omega), if_pos (by omega)]
          refine bind_of a1 (bind_of (rdig_eq hpp) ?_)
          refine bind_of ((rbit_eq d i).1.trans hb) ?_
          rcases hb2 with e | e
          · rw [e] at k0 k1
            rw [e, if_pos (by simp), if_pos (by simp only [mxl]; omega), if_pos (by omega)]
            refine bind_of (rdig_eq hoi) ?_
            rw [if_pos (by simp only [List.length_append, mxl]; omega), k0, k1]
            unfold ref05_Opened.j2
            rw [w64 (by omega)]
            rfl
          · rw [e] at k0 k1
            rw [e, if_neg (by simp), if_pos (by omega)]
            refine bind_of (rdig_eq hoi) ?_
            rw [if_pos (by simp only [mxl]; omega), if_pos (by simp only [List.length_append, mxl]; omega), k0, k1]
            unfold ref05_Opened.j2
            rw [w64 (by omega)]
            rfl
        refine .inl ⟨_, hstep, ⟨i + 1, Q1, by omega, rfl, hg.trans a2, fun j hj => ?_⟩, by simp; omega⟩
        by_cases hj2 : j < i
        · exact a2.old _ (hN j hj2)
        · have : j = i := by omega
          subst this
          exact a3
      · have : i = 32 := by omega
        subst this
        refine .inr (.inl ⟨((32 : Nat), some Q', ((opn d parts others).take (2 * 32)).flatten), ?_, Q', ?_, hg, hN⟩)
        · show ref05_Opened.b1 d parts others 32 _ _ = _
          unfold ref05_Opened.b1
          rw [if_neg (by simp)]
          rfl
        · rw [List.take_of_length_le (by rw [hol.1]; decide)]) ((32 - 0 : Int).toNat + 2) (0, some Q, []) ⟨0, Q, by omega, rfl, Grow.refl A, fun j hj => by omega⟩ (by simp)
  unfold ref05_Opened
  rw [if_neg (by simp [hp.1])]
  unfold ref05_Opened.j1
  rw [if_neg (by simp [ho.1])]
  cases c with
  | ret r => exact h2.elim
  | next s =>
    obtain ⟨i, s2⟩ := s
    obtain ⟨Q', rfl, h3, h4⟩ : ∃ Q', s2 = (some Q', (opn d parts others).flatten) ∧ Grow Q n Q' (n + 32) ∧ ∀ j, j < 32 → Noted Q' (inp 2 [parts.getD j default]) := h2
    obtain ⟨Q2, p1, p2, p3⟩ := rpair_eq h3.ok (by omega) hol.1 hol.2
    refine ⟨Q2, bind_next h1 ?_, h3.trans p2, fun j hj => p2.old _ (h4 j hj), p3⟩
    dsimp only
    rw [p1]
    simp only [Option.bind_some]
theorem ropened_no (L : Option O_RLog) (d : List UInt8) {parts others : List (List UInt8)} (h : ¬(parts.length = 32 ∧ others.length = 32)) : ref05_Opened L d parts others = some (List.replicate 32 0, false, L) := by
  unfold ref05_Opened
  by_cases hp : parts.length = 32
  · rw [if_neg (by simp [hp])]
    unfold ref05_Opened.j1
    rw [if_pos (by simp; omega)]
  · rw [if_pos (by simp; omega)]
    unfold ref05_Opened.j1
    rw [if_pos rfl]
end Go.Proofs.YtbhehllkimedaaaDoor
