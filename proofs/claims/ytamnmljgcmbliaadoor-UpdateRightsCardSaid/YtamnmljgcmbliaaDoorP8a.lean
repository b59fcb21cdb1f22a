/- Plain laws of the document's words and bytes. -/
import Derived.Test.YtamnmljgcmbliaaDoorP5a
import Derived.Test.YtamnmljgcmbliaaDoorP7
namespace Go.Proofs.YtamnmljgcmbliaaDoor
open Go Go.RowKit Go.Proofs
set_option linter.unusedVariables false

theorem Small.R {ps : List (List UInt8)} (h : Small ps) (d : Int) : ref01_Sum (inp d ps) = some (Go.Proofs.YtamnmljgcmbliaaDoor.H (inp d ps)) := by
  obtain ⟨x, h1, h2, _⟩ := sum_eq (inp d ps) (by have := h.enc; simp [inp, mxl]; omega)
  rw [(h.H d).1] at h1
  rw [h2, h1]
theorem rdig_eq {x : List UInt8} (h : x.length = 32) : ref03_Bytes x = some x := dig_eq h
theorem wrap64 (i : Int) : ∃ n : Nat, IntKind.wrap .u64 i = (n : Int) ∧ n < 18446744073709551616 ∧ ((n : Int) = i % 18446744073709551616) := by
  refine ⟨(i % 18446744073709551616).toNat, ?_, by omega, by omega⟩
  simp only [IntKind.wrap, IntKind.bits, IntKind.signed]; simp; omega
theorem wrap32 (i : Int) : ∃ n : Nat, IntKind.wrap .u32 i = (n : Int) ∧ n < 4294967296 ∧ ((n : Int) = i % 4294967296) := by
  refine ⟨(i % 4294967296).toNat, ?_, by omega, by omega⟩
  simp only [IntKind.wrap, IntKind.bits, IntKind.signed]; simp; omega
theorem rword_eq (i : Int) : ref03_Big (IntKind.wrap .u64 i) 4 = some (wrd i) := by
  obtain ⟨n, h1, h2, h3⟩ := wrap64 i
  obtain ⟨m, k1, k2, k3⟩ := wrap32 i
  rw [h1, ref_big4 n h2]
  unfold wrd
  rw [k1]
  have hmn : m = n % 4294967296 := by omega
  unfold hd4
  have e0 : u8of (IntKind.wrap .u8 (shr .u64 (n : Int) 24)) = u8of (IntKind.wrap .u8 (shr .u64 (m : Int) 24)) := UInt8.toNat_inj.1 (by rw [byteOf (q := 16777216) (by decide) (by decide), byteOf (q := 16777216) (by decide) (by decide)]; omega)
  have e1 : u8of (IntKind.wrap .u8 (shr .u64 (n : Int) 16)) = u8of (IntKind.wrap .u8 (shr .u64 (m : Int) 16)) := UInt8.toNat_inj.1 (by rw [byteOf (q := 65536) (by decide) (by decide), byteOf (q := 65536) (by decide) (by decide)]; omega)
  have e2 : u8of (IntKind.wrap .u8 (shr .u64 (n : Int) 8)) = u8of (IntKind.wrap .u8 (shr .u64 (m : Int) 8)) := UInt8.toNat_inj.1 (by rw [byteOf (q := 256) (by decide) (by decide), byteOf (q := 256) (by decide) (by decide)]; omega)
  have e3 : u8of (IntKind.wrap .u8 (shr .u64 (n : Int) 0)) = u8of (IntKind.wrap .u8 (shr .u64 (m : Int) 0)) := UInt8.toNat_inj.1 (by rw [byteOf (q := 1) (by decide) (by decide), byteOf (q := 1) (by decide) (by decide)]; omega)
  rw [e0, e1, e2, e3]
theorem rbyte_eq (i : Int) : ref03_Big (IntKind.wrap .u64 i) 1 = some [by1 i] := by
  obtain ⟨n, h1, h2, h3⟩ := wrap64 i
  rw [h1, ref_big1 n h2]
  unfold by1
  have : IntKind.wrap .u8 ((n % 256 : Nat) : Int) = IntKind.wrap .u8 i := by
    simp only [IntKind.wrap, IntKind.bits, IntKind.signed]; simp; omega
  rw [this]
theorem rNone (d : Int) {ps : List (List UInt8)} (h : Small ps) : ref04_Log_Of none d ps = some (H (inp d ps), none) := by
  have he := h.enc
  unfold ref04_Log_Of
  exact bind_of (ref_input d ps (fun p hp => by have := h.1 p hp; omega) (by omega) (by have := h.2; omega)) (bind_of (h.R d) (bind_of rfl rfl))
end Go.Proofs.YtamnmljgcmbliaaDoor
