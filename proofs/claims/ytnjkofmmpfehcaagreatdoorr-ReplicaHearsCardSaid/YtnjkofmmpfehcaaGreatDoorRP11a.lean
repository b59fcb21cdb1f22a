/- Plain laws: P21, P22a, P11a, as one text. -/
import Derived.Test.YtnjkofmmpfehcaaGreatDoorRP20b
import Derived.Test.YtnjkofmmpfehcaaGreatDoorRP8a
namespace Go.Proofs.YtnjkofmmpfehcaaGreatDoorR
open Go Go.RowKit Go.Proofs
section
set_option linter.unusedVariables false

theorem wordU {x : Int} (h : 0 ≤ x ∧ x < 4294967296) : wire_Word x = some (wrd x) := by
  unfold wire_Word wrd
  rw [wu64 (by omega), wu32 h, big4]
  rfl
def clP (home : Int) (a b : List UInt8) : List (List UInt8) := [wrd home, a, b]
theorem clSmall {home : Int} {a b : List UInt8} (ha : a.length = 32) (hb : b.length = 32) : Small (clP home a b) := ⟨fun p hp => by
  simp only [clP, List.mem_cons, List.not_mem_nil, or_false] at hp
  rcases hp with rfl | rfl | rfl
  · simp [wrd, hd4]
  · omega
  · omega, by simp [clP]⟩
noncomputable def claim (home : Int) (a b : List UInt8) : List UInt8 := H (inp 7 (clP home a b))
theorem claim_eq (L : Option O_Log) {home : Int} (hh : 0 ≤ home ∧ home < 4294967296) {a b : List UInt8} (ha : a.length = 32) (hb : b.length = 32) : ∃ L', update_Claim L home a b = some (claim home a b, L') ∧ (L = none → L' = none) := by
  obtain ⟨L', h1, h2⟩ := dOf L 7 (clSmall (home := home) ha hb)
  refine ⟨L', ?_, h2⟩
  unfold update_Claim
  exact bind_of (wordU hh) (bind_of (dig_eq ha) (bind_of (dig_eq hb) (bind_of h1 rfl)))
end

section
set_option linter.unusedVariables false

def htP (home : Int) (a : List UInt8) (w : Int) : List (List UInt8) := [wrd home, a, wrd w]
theorem htSmall {home w : Int} {a : List UInt8} (ha : a.length = 32) : Small (htP home a w) := ⟨fun p hp => by
  simp only [htP, List.mem_cons, List.not_mem_nil, or_false] at hp
  rcases hp with rfl | rfl | rfl
  · simp [wrd, hd4]
  · omega
  · simp [wrd, hd4], by simp [htP]⟩
noncomputable def haltD (home : Int) (a : List UInt8) (w : Int) : List UInt8 := H (inp 9 (htP home a w))
theorem halt_eq (L : Option O_Log) {home : Int} (hh : 0 ≤ home ∧ home < 4294967296) {a : List UInt8} (ha : a.length = 32) (w : Int) : ∃ L', update_Halt L home a w = some (haltD home a w, L') ∧ (L = none → L' = none) := by
  obtain ⟨L', h1, h2⟩ := dOf L 9 (htSmall (home := home) (w := w) ha)
  refine ⟨L', ?_, h2⟩
  unfold update_Halt
  exact bind_of (wordU hh) (bind_of (dig_eq ha) (bind_of (word_text w) (bind_of h1 rfl)))
theorem rclaim_none (home : Int) {a b : List UInt8} (ha : a.length = 32) (hb : b.length = 32) : ref10_Claim none home a b = some (claim home a b, none) := by
  unfold ref10_Claim
  exact bind_of (rword_eq home) (bind_of (rdig_eq ha) (bind_of (rdig_eq hb) (bind_of (rNone 7 (clSmall (home := home) ha hb)) rfl)))
theorem rhalt_none (home : Int) {a : List UInt8} (ha : a.length = 32) (w : Int) : ref10_Halt none home a w = some (haltD home a w, none) := by
  unfold ref10_Halt
  exact bind_of (rword_eq home) (bind_of (rdig_eq ha) (bind_of (rword_eq w) (bind_of (rNone 9 (htSmall (home := home) (w := w) ha)) rfl)))
end

section
set_option linter.unusedVariables false

theorem flat_succ (l : List (List UInt8)) (j : Nat) (x : List UInt8) (h : l[j]? = some x) : (l.take (j + 1)).flatten = (l.take j).flatten ++ x := by
  obtain ⟨hj, e⟩ := List.getElem?_eq_some_iff.1 h
  rw [List.take_succ_eq_append_getElem hj, List.flatten_append, e]
  simp only [List.flatten_cons, List.flatten_nil, List.append_nil]
theorem flat_take_len {l : List (List UInt8)} (h : ∀ p ∈ l, p.length = 32) (k : Nat) (hk : k ≤ l.length) : (l.take k).flatten.length = 32 * k := by
  rw [flat_len _ fun q hq => h q (List.mem_of_mem_take hq)]
  simp; omega
theorem w64n {n : Nat} (h : n < 9223372036854775808) : IntKind.wrap .i64 (n : Int) = (n : Int) := w64 (by omega)
theorem rbit_loop (a : Int) (k : Nat) (hk : IntKind.wrap .i64 (7 - (a.tmod 8)) = (k : Int)) (hk7 : k ≤ 7) (x : Nat) (hx : x < 256) : ∃ i, loopN (fun s : Int × Int => ref05_Bit.b1 a s.1 s.2) 100000 ((x : Int), 0) = some (.next (((x / 2 ^ k : Nat) : Int), i)) := by
  obtain ⟨c, h1, h2⟩ := loop_ok (body := fun s : Int × Int => ref05_Bit.b1 a s.1 s.2) (fun s => ∃ j : Nat, j ≤ k ∧ s = (((x / 2 ^ j : Nat) : Int), (j : Int))) (fun c => match c with | .next s => s.1 = ((x / 2 ^ k : Nat) : Int) | .ret _ => False) (fun s => (k - s.2).toNat)
    (fun s ⟨j, hj, hs⟩ => by
      subst hs
      by_cases hlt : j < k
      · refine .inl ⟨(((x / 2 ^ (j + 1) : Nat) : Int), ((j + 1 : Nat) : Int)), ?_, ⟨j + 1, by omega, rfl⟩, by simp; omega⟩
        show ref05_Bit.b1 a _ _ = _
        unfold ref05_Bit.b1
        have hd : x / 2 ^ j ≤ x := Nat.div_le_self _ _
        have e1 : ((x / 2 ^ j : Nat) : Int).tdiv 2 = ((x / 2 ^ (j + 1) : Nat) : Int) := by
          rw [Int.tdiv_eq_ediv_of_nonneg (Int.natCast_nonneg _), Nat.pow_succ, ← Nat.div_div_eq_div_mul]; simp
        have hd2 : x / 2 ^ (j + 1) ≤ x := Nat.div_le_self _ _
        rw [hk, if_pos (by simp; omega), e1, w64n (by omega), w64 (by omega)]
        rfl
      · have : j = k := by omega
        subst this
        refine .inr (.inl ⟨(((x / 2 ^ j : Nat) : Int), (j : Int)), ?_, rfl⟩)
        show ref05_Bit.b1 a _ _ = _
        unfold ref05_Bit.b1
        rw [hk, if_neg (by simp)]) 100000 ((x : Int), 0) ⟨0, by omega, by simp⟩ (by simp; omega)
  cases c with
  | ret r => exact h2.elim
  | next s =>
    obtain ⟨y, i⟩ := s
    have h2 : y = _ := h2
    subst h2
    exact ⟨i, h1⟩
theorem rbit_eq (d : List UInt8) (i : Int) : ref05_Bit d i = lamport_Bit d i ∧ ∃ b, lamport_Bit d i = some b := by
  unfold ref05_Bit lamport_Bit
  by_cases h0 : i < 0
  · rw [if_pos (by simpa using h0), if_pos (by simpa using h0)]
    exact ⟨rfl, _, rfl⟩
  · rw [if_neg (by simpa using h0), if_neg (by simpa using h0)]
    by_cases h1 : 256 ≤ i
    · unfold ref05_Bit.j1 lamport_Bit.j1
      rw [if_pos (by simp; omega), if_pos (by simp; omega)]
      exact ⟨rfl, _, rfl⟩
    · obtain ⟨n, rfl⟩ : ∃ n : Nat, i = (n : Int) := ⟨i.toNat, by omega⟩
      have e1 : (n : Int).tdiv 8 = ((n / 8 : Nat) : Int) := by rw [Int.tdiv_eq_ediv_of_nonneg (by omega)]; simp
      have e2 : (n : Int).tmod 8 = ((n % 8 : Nat) : Int) := by rw [Int.tmod_eq_emod_of_nonneg (by omega)]; simp
      have hk : IntKind.wrap .i64 (7 - ((n : Int).tmod 8)) = ((7 - n % 8 : Nat) : Int) := by rw [e2, w64 (by omega)]; omega
      have hq : IntKind.wrap .i64 ((n : Int).tdiv 8) = ((n / 8 : Nat) : Int) := by rw [e1, w64n (by omega)]
      have hx2 : (d.getD ((n / 8 : Nat) : Int).toNat 0).toNat < 256 := UInt8.toNat_lt _
      have hk7 : 7 - n % 8 ≤ 7 := by omega
      have hA : lamport_Bit.j1 d n (decide ((256 : Int) ≤ n)) = some ((((d.getD ((n / 8 : Nat) : Int).toNat 0).toNat / 2 ^ (7 - n % 8) : Nat) : Int) % 2) := by
        unfold lamport_Bit.j1
        rw [if_neg (by simp; omega), hk, hq, if_pos (by omega), if_pos (by omega)]
        generalize (d.getD ((n / 8 : Nat) : Int).toNat 0).toNat = x at *
        generalize 7 - n % 8 = k at *
        have hs : shr .u8 (x : Int) (k : Int) = ((x / 2 ^ k : Nat) : Int) := by
          unfold shr
          have : min (k : Int).toNat IntKind.u8.bits = k := by simp [IntKind.bits]; omega
          rw [this, Int.fdiv_eq_ediv_of_nonneg _ (by exact Int.le_of_lt (Int.pow_pos (by decide)))]
          simp
        have hd : x / 2 ^ k ≤ x := Nat.div_le_self _ _
        rw [hs, w64n (by omega), i64_and1]
      have hB : ref05_Bit.j1 d n (decide ((255 : Int) < n)) = some ((((d.getD ((n / 8 : Nat) : Int).toNat 0).toNat / 2 ^ (7 - n % 8) : Nat) : Int) % 2) := by
        unfold ref05_Bit.j1
        rw [if_neg (by simp; omega), hq, if_pos (by omega)]
        generalize (d.getD ((n / 8 : Nat) : Int).toNat 0).toNat = x at *
        generalize 7 - n % 8 = k at *
        obtain ⟨j, hl⟩ := rbit_loop n k hk hk7 x hx2
        rw [w64n (by omega)]
        refine bind_next hl ?_
        dsimp only
        rw [Int.tmod_eq_emod_of_nonneg (Int.natCast_nonneg _)]
      rw [hA, hB]
      exact ⟨rfl, _, rfl⟩
theorem opn_at (d : List UInt8) (parts others : List (List UInt8)) (j : Nat) (hj : j < 64) : (opn d parts others)[j]? = some (opnA d parts others j) := by simp [opn, hj]
theorem ropened_no (L : Option O_RLog) (d : List UInt8) {parts others : List (List UInt8)} (h : ¬(parts.length = 32 ∧ others.length = 32)) : ref05_Opened L d parts others = some (List.replicate 32 0, false, L) := by
  unfold ref05_Opened
  by_cases hp : parts.length = 32
  · rw [if_neg (by simp [hp])]
    unfold ref05_Opened.j1
    rw [if_pos (by simp; omega)]
  · rw [if_pos (by simp; omega)]
    unfold ref05_Opened.j1
    rw [if_pos rfl]
end
end Go.Proofs.YtnjkofmmpfehcaaGreatDoorR
