/- Plain laws: P8a, P20, P20b, P23a, P21, P32, as one text. -/
import Derived.Test.YteboiefnflipjaaGreatDoorP5a
import Derived.Test.YteboiefnflipjaaGreatDoorP7
namespace Go.Proofs.YteboiefnflipjaaGreatDoor
open Go Go.RowKit Go.Proofs
section
set_option linter.unusedVariables false

theorem Small.R {ps : List (List UInt8)} (h : Small ps) (d : Int) : FL (IV d ps) = some (Go.Proofs.YteboiefnflipjaaGreatDoor.H (IV d ps)) := by
  obtain ⟨x, h1, h2, _⟩ := PQ (IV d ps) (by have := h.enc; simp [IV, CG]; omega)
  rw [(h.H d).1] at h1
  rw [h2, h1]
theorem Me {x : List UInt8} (h : x.length = 32) : Fv x = some x := Ir h
theorem wrap64 (i : Int) : ∃ n : Nat, IntKind.wrap .u64 i = (n : Int) ∧ n < 18446744073709551616 ∧ ((n : Int) = i % 18446744073709551616) := by
  refine ⟨(i % 18446744073709551616).toNat, ?_, by omega, by omega⟩
  simp only [IntKind.wrap, IntKind.bits, IntKind.signed]; simp; omega
theorem wrap32 (i : Int) : ∃ n : Nat, IntKind.wrap .u32 i = (n : Int) ∧ n < 4294967296 ∧ ((n : Int) = i % 4294967296) := by
  refine ⟨(i % 4294967296).toNat, ?_, by omega, by omega⟩
  simp only [IntKind.wrap, IntKind.bits, IntKind.signed]; simp; omega
theorem Jc (i : Int) : CD (IntKind.wrap .u64 i) 4 = some (JW i) := by
  obtain ⟨n, h1, h2, h3⟩ := wrap64 i
  obtain ⟨m, k1, k2, k3⟩ := wrap32 i
  rw [h1, K5 n h2]
  unfold JW
  rw [k1]
  have hmn : m = n % 4294967296 := by omega
  unfold JS
  have e0 : BA (IntKind.wrap .u8 (shr .u64 (n : Int) 24)) = BA (IntKind.wrap .u8 (shr .u64 (m : Int) 24)) := UInt8.toNat_inj.1 (by rw [byteOf (q := 16777216) (by decide) (by decide), byteOf (q := 16777216) (by decide) (by decide)]; omega)
  have e1 : BA (IntKind.wrap .u8 (shr .u64 (n : Int) 16)) = BA (IntKind.wrap .u8 (shr .u64 (m : Int) 16)) := UInt8.toNat_inj.1 (by rw [byteOf (q := 65536) (by decide) (by decide), byteOf (q := 65536) (by decide) (by decide)]; omega)
  have e2 : BA (IntKind.wrap .u8 (shr .u64 (n : Int) 8)) = BA (IntKind.wrap .u8 (shr .u64 (m : Int) 8)) := UInt8.toNat_inj.1 (by rw [byteOf (q := 256) (by decide) (by decide), byteOf (q := 256) (by decide) (by decide)]; omega)
  have e3 : BA (IntKind.wrap .u8 (shr .u64 (n : Int) 0)) = BA (IntKind.wrap .u8 (shr .u64 (m : Int) 0)) := UInt8.toNat_inj.1 (by rw [byteOf (q := 1) (by decide) (by decide), byteOf (q := 1) (by decide) (by decide)]; omega)
  rw [e0, e1, e2, e3]
theorem Pl (d : Int) {ps : List (List UInt8)} (h : Small ps) : EI none d ps = some (H (IV d ps), none) := by
  have he := h.enc
  unfold EI
  exact Ax (MR d ps (fun p hp => by have := h.1 p hp; omega) (by omega) (by have := h.2; omega)) (Ax (h.R d) (Ax rfl rfl))
end

section
set_option linter.unusedVariables false

theorem Kz {a b : List UInt8} (ha : a.length = 32) (hb : b.length = 32) : Small [a, b] := ⟨fun p hp => by simp only [List.mem_cons, List.not_mem_nil, or_false] at hp; rcases hp with rfl | rfl <;> omega, by simp⟩
theorem Ms {l : List (List UInt8)} (h : ∀ p ∈ l, p.length = 32) {i : Nat} (hi : i < l.length) : (l.getD i default).length = 32 := by
  rw [show l.getD i default = l[i] from by simp [List.getD, hi]]
  exact h _ (List.getElem_mem hi)
noncomputable def leaves (seed : List UInt8) : List (List UInt8) := (List.range 16).map fun (i : Nat) => PK (Ru seed (i : Int))
end

section
set_option linter.unusedVariables false

end

section
set_option linter.unusedVariables false

end

section
set_option linter.unusedVariables false

theorem Nq {x : Int} (h : 0 ≤ x ∧ x < 4294967296) : DM x = some (JW x) := by
  unfold DM JW
  rw [GL (by omega), KX h, Qs]
  rfl
end

section
set_option linter.unusedVariables false

end
end Go.Proofs.YteboiefnflipjaaGreatDoor
