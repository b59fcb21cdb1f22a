/- Plain laws of the document's lamport: the same answers, each noted. -/
import Derived.Test.YtbhehllkimedaaaDoorP6
import Derived.Test.YtbhehllkimedaaaDoorP7
namespace Go.Proofs.YtbhehllkimedaaaDoor
open Go Go.RowKit Go.Proofs
set_option linter.unusedVariables false

theorem new_r : ref04_New = some ⟨[], []⟩ := rfl
theorem Small.R {ps : List (List UInt8)} (h : Small ps) (d : Int) : ref01_Sum (inp d ps) = some (Go.Proofs.YtbhehllkimedaaaDoor.H (inp d ps)) := by
  obtain ⟨x, h1, h2, _⟩ := sum_eq (inp d ps) (by have := h.enc; simp [inp, mxl]; omega)
  rw [(h.H d).1] at h1
  rw [h2, h1]
def RefOk (Q : O_RLog) (n : Nat) : Prop := ∃ L, Alike L Q n
theorem refNew : RefOk ⟨[], []⟩ 0 := ⟨⟨[], []⟩, fun _ => rfl, rfl, fun x => by simp [lkp], fun k l h => by simp [lkp] at h, rfl, by simp, fun k l h => by simp [lkp] at h⟩
theorem rOf {Q : O_RLog} {n : Nat} (A : RefOk Q n) (hn : n < 1000) (d : Int) {ps : List (List UInt8)} (h : Small ps) :
    ∃ Q', ref04_Log_Of (some Q) d ps = some (H (inp d ps), some Q') ∧ RefOk Q' (n + 1) ∧ Noted Q' (inp d ps) ∧ ∀ y, Noted Q y → Noted Q' y := by
  obtain ⟨L, A⟩ := A
  have he := h.enc
  obtain ⟨L', Q', n1, n2, A', _⟩ := note_alike A hn (h.H d).1
  obtain ⟨h3, h4⟩ := note_noted A hn (h.H d).1 n2
  refine ⟨Q', ?_, ⟨L', A'⟩, h3, h4⟩
  unfold ref04_Log_Of
  exact bind_of (ref_input d ps (fun p hp => by have := h.1 p hp; omega) (by omega) (by have := h.2; omega)) (bind_of (h.R d) (bind_of n2 rfl))
theorem rdig_eq {x : List UInt8} (h : x.length = 32) : ref03_Bytes x = some x := dig_eq h
theorem wrap64 (i : Int) : ∃ n : Nat, IntKind.wrap .u64 i = (n : Int) ∧ n < 18446744073709551616 ∧ ((n : Int) = i % 18446744073709551616) := by
  refine ⟨(i % 18446744073709551616).toNat, ?_, by omega, by omega⟩
  simp only [IntKind.wrap, IntKind.bits, IntKind.signed]; simp; omega
theorem wrap32 (i : Int) : ∃ n : Nat, IntKind.wrap .u32 i = (n : Int) ∧ n < 4294967296 ∧ ((n : Int) = i % 4294967296) := by
  refine ⟨(i % 4294967296).toNat, ?_, by omega, by omega⟩
  simp only [IntKind.wrap, IntKind.bits, IntKind.signed]; simp; omega
theorem rword_eq (i : Int) : ref03_Big (IntKind.wrap .u64 i) 4 = some (wrd i) := by
  obtain ⟨n, h1, h2, h3⟩ := wrap64 i
  obtain ⟨m, k1, k2, k3⟩ := wrap32 i
  rw [h1, ref_big4 n h2]
  unfold wrd
  rw [k1]
  have hmn : m = n % 4294967296 := by omega
  unfold hd4
  have e0 : u8of (IntKind.wrap .u8 (shr .u64 (n : Int) 24)) = u8of (IntKind.wrap .u8 (shr .u64 (m : Int) 24)) := UInt8.toNat_inj.1 (by rw [byteOf (q := 16777216) (by decide) (by decide), byteOf (q := 16777216) (by decide) (by decide)]; omega)
  have e1 : u8of (IntKind.wrap .u8 (shr .u64 (n : Int) 16)) = u8of (IntKind.wrap .u8 (shr .u64 (m : Int) 16)) := UInt8.toNat_inj.1 (by rw [byteOf (q := 65536) (by decide) (by decide), byteOf (q := 65536) (by decide) (by decide)]; omega)
  have e2 : u8of (IntKind.wrap .u8 (shr .u64 (n : Int) 8)) = u8of (IntKind.wrap .u8 (shr .u64 (m : Int) 8)) := UInt8.toNat_inj.1 (by rw [byteOf (q := 256) (by decide) (by decide), byteOf (q := 256) (by decide) (by decide)]; omega)
  have e3 : u8of (IntKind.wrap .u8 (shr .u64 (n : Int) 0)) = u8of (IntKind.wrap .u8 (shr .u64 (m : Int) 0)) := UInt8.toNat_inj.1 (by rw [byteOf (q := 1) (by decide) (by decide), byteOf (q := 1) (by decide) (by decide)]; omega)
  rw [e0, e1, e2, e3]
theorem rbyte_eq (i : Int) : ref03_Big (IntKind.wrap .u64 i) 1 = some [by1 i] := by
  obtain ⟨n, h1, h2, h3⟩ := wrap64 i
  rw [h1, ref_big1 n h2]
  unfold by1
  have : IntKind.wrap .u8 ((n % 256 : Nat) : Int) = IntKind.wrap .u8 i := by
    simp only [IntKind.wrap, IntKind.bits, IntKind.signed]; simp; omega
  rw [this]
/-- What grows with each note. -/
structure Grow (Q : O_RLog) (n : Nat) (Q' : O_RLog) (n' : Nat) : Prop where
  ok : RefOk Q' n'
  old : ∀ y, Noted Q y → Noted Q' y
theorem rsecret_eq {Q : O_RLog} {n : Nat} (A : RefOk Q n) (hn : n < 1000) {seed : List UInt8} (h : seed.length = 32) (idx i b : Int) :
    ∃ Q', ref05_Secret (some Q) seed idx i b = some (sec seed idx i b, some Q') ∧ Grow Q n Q' (n + 1) ∧ Noted Q' (inp 1 (secP seed idx i b)) := by
  obtain ⟨Q', h1, h2, h3, h4⟩ := rOf A hn 1 (secSmall h idx i b)
  refine ⟨Q', ?_, ⟨h2, h4⟩, h3⟩
  unfold ref05_Secret
  exact bind_of (rdig_eq h) (bind_of (rword_eq idx) (bind_of (rbyte_eq i) (bind_of (rbyte_eq b) (bind_of h1 rfl))))
theorem rpublic_eq {Q : O_RLog} {n : Nat} (A : RefOk Q n) (hn : n < 1000) {s : List UInt8} (h : s.length = 32) :
    ∃ Q', ref05_Public (some Q) s = some (pub s, some Q') ∧ Grow Q n Q' (n + 1) ∧ Noted Q' (inp 2 [s]) := by
  obtain ⟨Q', h1, h2, h3, h4⟩ := rOf A hn 2 (pubSmall h)
  refine ⟨Q', ?_, ⟨h2, h4⟩, h3⟩
  unfold ref05_Public
  exact bind_of (rdig_eq h) (bind_of h1 rfl)
theorem rpair_eq {Q : O_RLog} {n : Nat} (A : RefOk Q n) (hn : n < 1000) {ps : List (List UInt8)} (h : ps.length = 64) (hp : ∀ p ∈ ps, p.length = 32) :
    ∃ Q', ref04_Log_Of (some Q) 3 [ps.flatten] = some (wordOf ps, some Q') ∧ Grow Q n Q' (n + 1) ∧ Noted Q' (inp 3 [ps.flatten]) := by
  obtain ⟨Q', h1, h2, h3, h4⟩ := rOf A hn 3 (flatSmall h hp)
  exact ⟨Q', h1, ⟨h2, h4⟩, h3⟩
end Go.Proofs.YtbhehllkimedaaaDoor
