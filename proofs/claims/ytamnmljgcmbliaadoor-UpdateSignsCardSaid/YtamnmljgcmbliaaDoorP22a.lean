/- Plain laws: P8a, P11a, P22a, as one text. -/
import Derived.Test.YtamnmljgcmbliaaDoorP5a
import Derived.Test.YtamnmljgcmbliaaDoorP7
import Derived.Test.YtamnmljgcmbliaaDoorP21
namespace Go.Proofs.YtamnmljgcmbliaaDoor
open Go Go.RowKit Go.Proofs
section
set_option linter.unusedVariables false

theorem Small.R {ps : List (List UInt8)} (h : Small ps) (d : Int) : ref01_Sum (inp d ps) = some (Go.Proofs.YtamnmljgcmbliaaDoor.H (inp d ps)) := by
  obtain ⟨x, h1, h2, _⟩ := sum_eq (inp d ps) (by have := h.enc; simp [inp, mxl]; omega)
  rw [(h.H d).1] at h1
  rw [h2, h1]
theorem rdig_eq {x : List UInt8} (h : x.length = 32) : ref03_Bytes x = some x := dig_eq h
theorem wrap64 (i : Int) : ∃ n : Nat, IntKind.wrap .u64 i = (n : Int) ∧ n < 18446744073709551616 ∧ ((n : Int) = i % 18446744073709551616) := by
  refine ⟨(i % 18446744073709551616).toNat, ?_, by omega, by omega⟩
  simp only [IntKind.wrap, IntKind.bits, IntKind.signed]; simp; omega
theorem wrap32 (i : Int) : ∃ n : Nat, IntKind.wrap .u32 i = (n : Int) ∧ n < 4294967296 ∧ ((n : Int) = i % 4294967296) := by
  refine ⟨(i % 4294967296).toNat, ?_, by omega, by omega⟩
  simp only [IntKind.wrap, IntKind.bits, IntKind.signed]; simp; omega
theorem rword_eq (i : Int) : ref03_Big (IntKind.wrap .u64 i) 4 = some (wrd i) := by
  obtain ⟨n, h1, h2, h3⟩ := wrap64 i
  obtain ⟨m, k1, k2, k3⟩ := wrap32 i
  rw [h1, ref_big4 n h2]
  unfold wrd
  rw [k1]
  have hmn : m = n % 4294967296 := by omega
  unfold hd4
  have e0 : u8of (IntKind.wrap .u8 (shr .u64 (n : Int) 24)) = u8of (IntKind.wrap .u8 (shr .u64 (m : Int) 24)) := UInt8.toNat_inj.1 (by rw [byteOf (q := 16777216) (by decide) (by decide), byteOf (q := 16777216) (by decide) (by decide)]; omega)
  have e1 : u8of (IntKind.wrap .u8 (shr .u64 (n : Int) 16)) = u8of (IntKind.wrap .u8 (shr .u64 (m : Int) 16)) := UInt8.toNat_inj.1 (by rw [byteOf (q := 65536) (by decide) (by decide), byteOf (q := 65536) (by decide) (by decide)]; omega)
  have e2 : u8of (IntKind.wrap .u8 (shr .u64 (n : Int) 8)) = u8of (IntKind.wrap .u8 (shr .u64 (m : Int) 8)) := UInt8.toNat_inj.1 (by rw [byteOf (q := 256) (by decide) (by decide), byteOf (q := 256) (by decide) (by decide)]; omega)
  have e3 : u8of (IntKind.wrap .u8 (shr .u64 (n : Int) 0)) = u8of (IntKind.wrap .u8 (shr .u64 (m : Int) 0)) := UInt8.toNat_inj.1 (by rw [byteOf (q := 1) (by decide) (by decide), byteOf (q := 1) (by decide) (by decide)]; omega)
  rw [e0, e1, e2, e3]
theorem rbyte_eq (i : Int) : ref03_Big (IntKind.wrap .u64 i) 1 = some [by1 i] := by
  obtain ⟨n, h1, h2, h3⟩ := wrap64 i
  rw [h1, ref_big1 n h2]
  unfold by1
  have : IntKind.wrap .u8 ((n % 256 : Nat) : Int) = IntKind.wrap .u8 i := by
    simp only [IntKind.wrap, IntKind.bits, IntKind.signed]; simp; omega
  rw [this]
theorem rNone (d : Int) {ps : List (List UInt8)} (h : Small ps) : ref04_Log_Of none d ps = some (H (inp d ps), none) := by
  have he := h.enc
  unfold ref04_Log_Of
  exact bind_of (ref_input d ps (fun p hp => by have := h.1 p hp; omega) (by omega) (by have := h.2; omega)) (bind_of (h.R d) (bind_of rfl rfl))
end

section
set_option linter.unusedVariables false

theorem w64n {n : Nat} (h : n < 9223372036854775808) : IntKind.wrap .i64 (n : Int) = (n : Int) := w64 (by omega)
theorem rbit_loop (a : Int) (k : Nat) (hk : IntKind.wrap .i64 (7 - (a.tmod 8)) = (k : Int)) (hk7 : k ≤ 7) (x : Nat) (hx : x < 256) : ∃ i, loopN (fun s : Int × Int => ref05_Bit.b1 a s.1 s.2) 100000 ((x : Int), 0) = some (.next (((x / 2 ^ k : Nat) : Int), i)) := by
  obtain ⟨c, h1, h2⟩ := loop_ok (body := fun s : Int × Int => ref05_Bit.b1 a s.1 s.2) (fun s => ∃ j : Nat, j ≤ k ∧ s = (((x / 2 ^ j : Nat) : Int), (j : Int))) (fun c => match c with | .next s => s.1 = ((x / 2 ^ k : Nat) : Int) | .ret _ => False) (fun s => (k - s.2).toNat)
    (fun s ⟨j, hj, hs⟩ => by
      subst hs
      by_cases hlt : j < k
      · refine .inl ⟨(((x / 2 ^ (j + 1) : Nat) : Int), ((j + 1 : Nat) : Int)), ?_, ⟨j + 1, by omega, rfl⟩, by simp; omega⟩
        show ref05_Bit.b1 a _ _ = _
        unfold ref05_Bit.b1
        have hd : x / 2 ^ j ≤ x := Nat.div_le_self _ _
        have e1 : ((x / 2 ^ j : Nat) : Int).tdiv 2 = ((x / 2 ^ (j + 1) : Nat) : Int) := by
          rw [Int.tdiv_eq_ediv_of_nonneg (Int.natCast_nonneg _), Nat.pow_succ, ← Nat.div_div_eq_div_mul]; simp
        have hd2 : x / 2 ^ (j + 1) ≤ x := Nat.div_le_self _ _
        rw [hk, if_pos (by simp; omega), e1, w64n (by omega), w64 (by omega)]
        rfl
      · have : j = k := by omega
        subst this
        refine .inr (.inl ⟨(((x / 2 ^ j : Nat) : Int), (j : Int)), ?_, rfl⟩)
        show ref05_Bit.b1 a _ _ = _
        unfold ref05_Bit.b1
        rw [hk, if_neg (by simp)]) 100000 ((x : Int), 0) ⟨0, by omega, by simp⟩ (by simp; omega)
  cases c with
  | ret r => exact h2.elim
  | next s =>
    obtain ⟨y, i⟩ := s
    have h2 : y = _ := h2
    subst h2
    exact ⟨i, h1⟩
theorem rbit_eq (d : List UInt8) (i : Int) : ref05_Bit d i = lamport_Bit d i ∧ ∃ b, lamport_Bit d i = some b := by
  unfold ref05_Bit lamport_Bit
  by_cases h0 : i < 0
  · rw [if_pos (by simpa using h0), if_pos (by simpa using h0)]
    exact ⟨rfl, _, rfl⟩
  · rw [if_neg (by simpa using h0), if_neg (by simpa using h0)]
    by_cases h1 : 256 ≤ i
    · unfold ref05_Bit.j1 lamport_Bit.j1
      rw [if_pos (by simp; omega), if_pos (by simp; omega)]
      exact ⟨rfl, _, rfl⟩
    · obtain ⟨n, rfl⟩ : ∃ n : Nat, i = (n : Int) := ⟨i.toNat, by omega⟩
      have e1 : (n : Int).tdiv 8 = ((n / 8 : Nat) : Int) := by rw [Int.tdiv_eq_ediv_of_nonneg (by omega)]; simp
      have e2 : (n : Int).tmod 8 = ((n % 8 : Nat) : Int) := by rw [Int.tmod_eq_emod_of_nonneg (by omega)]; simp
      have hk : IntKind.wrap .i64 (7 - ((n : Int).tmod 8)) = ((7 - n % 8 : Nat) : Int) := by rw [e2, w64 (by omega)]; omega
      have hq : IntKind.wrap .i64 ((n : Int).tdiv 8) = ((n / 8 : Nat) : Int) := by rw [e1, w64n (by omega)]
      have hx2 : (d.getD ((n / 8 : Nat) : Int).toNat 0).toNat < 256 := UInt8.toNat_lt _
      have hk7 : 7 - n % 8 ≤ 7 := by omega
      have hA : lamport_Bit.j1 d n (decide ((256 : Int) ≤ n)) = some ((((d.getD ((n / 8 : Nat) : Int).toNat 0).toNat / 2 ^ (7 - n % 8) : Nat) : Int) % 2) := by
        unfold lamport_Bit.j1
        rw [if_neg (by simp; omega), hk, hq, if_pos (by omega), if_pos (by omega)]
        generalize (d.getD ((n / 8 : Nat) : Int).toNat 0).toNat = x at *
        generalize 7 - n % 8 = k at *
        have hs : shr .u8 (x : Int) (k : Int) = ((x / 2 ^ k : Nat) : Int) := by
          unfold shr
          have : min (k : Int).toNat IntKind.u8.bits = k := by simp [IntKind.bits]; omega
          rw [this, Int.fdiv_eq_ediv_of_nonneg _ (by exact Int.le_of_lt (Int.pow_pos (by decide)))]
          simp
        have hd : x / 2 ^ k ≤ x := Nat.div_le_self _ _
        rw [hs, w64n (by omega), i64_and1]
      have hB : ref05_Bit.j1 d n (decide ((255 : Int) < n)) = some ((((d.getD ((n / 8 : Nat) : Int).toNat 0).toNat / 2 ^ (7 - n % 8) : Nat) : Int) % 2) := by
        unfold ref05_Bit.j1
        rw [if_neg (by simp; omega), hq, if_pos (by omega)]
        generalize (d.getD ((n / 8 : Nat) : Int).toNat 0).toNat = x at *
        generalize 7 - n % 8 = k at *
        obtain ⟨j, hl⟩ := rbit_loop n k hk hk7 x hx2
        rw [w64n (by omega)]
        refine bind_next hl ?_
        dsimp only
        rw [Int.tmod_eq_emod_of_nonneg (Int.natCast_nonneg _)]
      rw [hA, hB]
      exact ⟨rfl, _, rfl⟩
end

section
set_option linter.unusedVariables false

def htP (home : Int) (a : List UInt8) (w : Int) : List (List UInt8) := [wrd home, a, wrd w]
theorem htSmall {home w : Int} {a : List UInt8} (ha : a.length = 32) : Small (htP home a w) := ⟨fun p hp => by
  simp only [htP, List.mem_cons, List.not_mem_nil, or_false] at hp
  rcases hp with rfl | rfl | rfl
  · simp [wrd, hd4]
  · omega
  · simp [wrd, hd4], by simp [htP]⟩
noncomputable def haltD (home : Int) (a : List UInt8) (w : Int) : List UInt8 := H (inp 9 (htP home a w))
theorem halt_eq (L : Option O_Log) {home : Int} (hh : 0 ≤ home ∧ home < 4294967296) {a : List UInt8} (ha : a.length = 32) (w : Int) : ∃ L', update_Halt L home a w = some (haltD home a w, L') ∧ (L = none → L' = none) := by
  obtain ⟨L', h1, h2⟩ := dOf L 9 (htSmall (home := home) (w := w) ha)
  refine ⟨L', ?_, h2⟩
  unfold update_Halt
  exact bind_of (wordU hh) (bind_of (dig_eq ha) (bind_of (word_text w) (bind_of h1 rfl)))
theorem rclaim_none (home : Int) {a b : List UInt8} (ha : a.length = 32) (hb : b.length = 32) : ref10_Claim none home a b = some (claim home a b, none) := by
  unfold ref10_Claim
  exact bind_of (rword_eq home) (bind_of (rdig_eq ha) (bind_of (rdig_eq hb) (bind_of (rNone 7 (clSmall (home := home) ha hb)) rfl)))
theorem rhalt_none (home : Int) {a : List UInt8} (ha : a.length = 32) (w : Int) : ref10_Halt none home a w = some (haltD home a w, none) := by
  unfold ref10_Halt
  exact bind_of (rword_eq home) (bind_of (rdig_eq ha) (bind_of (rword_eq w) (bind_of (rNone 9 (htSmall (home := home) (w := w) ha)) rfl)))
end
end Go.Proofs.YtamnmljgcmbliaaDoor
