/- Plain laws of the document's numbers in bytes (where P5a and P8a are not at hand). -/
import Derived.Test.YtnjkofmmpfehcaaDoorRP7
namespace Go.Proofs.YtnjkofmmpfehcaaDoorR
open Go Go.RowKit Go.Proofs
set_option linter.unusedVariables false

theorem u8mod (x : Nat) : (u8of (IntKind.wrap .u8 ((x % 256 : Nat) : Int))).toNat = x % 256 := by
  simp only [IntKind.wrap, IntKind.bits, IntKind.signed, u8of]
  simp
  omega
theorem rbig_step (x : Nat) (i : Nat) (w : List UInt8) (hx : x < 18446744073709551616) (hi : i < 4) : ref03_Big.b1 (x : Int) (i : Int) w = some (.cont (((x / 256 : Nat) : Int), (i : Int) - 1, w.set i (u8of (IntKind.wrap .u8 ((x % 256 : Nat) : Int))))) := by
  unfold ref03_Big.b1
  rw [if_pos (by simp), if_pos (by omega)]
  have e1 : (x : Int).tdiv 256 = ((x / 256 : Nat) : Int) := by rw [Int.tdiv_eq_ediv_of_nonneg (by omega)]; simp
  have e2 : (x : Int).tmod 256 = ((x % 256 : Nat) : Int) := by rw [Int.tmod_eq_emod_of_nonneg (by omega)]; simp
  rw [e1, e2]
  simp (disch := omega) only [w64, wu64]
  rfl
theorem rbig_end (x : Int) (w : List UInt8) : ref03_Big.b1 x (-1) w = some (.brk (x, -1, w)) := by
  unfold ref03_Big.b1
  rw [if_neg (by simp)]
theorem loop_cont {R S : Type} {body : S → Option (Flow R S)} (k : Nat) {s s' : S} {r : Option (Ctl R S)} (h1 : body s = some (.cont s')) (h2 : loopN body k s' = r) : loopN body (k + 1) s = r := by
  unfold loopN
  rw [h1]
  exact h2
theorem loop_brk {R S : Type} {body : S → Option (Flow R S)} (k : Nat) {s s' : S} (h1 : body s = some (.brk s')) : loopN body (k + 1) s = some (.next s') := by
  unfold loopN
  rw [h1]
theorem ref_big1 (n : Nat) (hn : n < 18446744073709551616) : ref03_Big (n : Int) 1 = some [u8of (IntKind.wrap .u8 ((n % 256 : Nat) : Int))] := by
  have k3 : IntKind.wrap .i64 (1 - 1) = ((0 : Nat) : Int) := by decide
  have hloop : loopN (fun s : Int × Int × (List UInt8) => ref03_Big.b1 s.1 s.2.1 s.2.2) (((IntKind.wrap .i64 (1 - 1)) - 0 : Int).toNat + 2) ((n : Int), IntKind.wrap .i64 (1 - 1), (List.replicate 8 0)) =
      some (.next (((n / 256 : Nat) : Int), -1, [u8of (IntKind.wrap .u8 ((n % 256 : Nat) : Int)), 0, 0, 0, 0, 0, 0, 0])) := by
    rw [k3]
    exact loop_cont 1 (rbig_step n 0 (List.replicate 8 0) hn (by decide)) (loop_brk 0 (rbig_end _ _))
  unfold ref03_Big
  refine bind_next hloop ?_
  show (if _ then _ else _) = _
  rw [if_pos (by decide), if_pos (by decide)]
  rfl
theorem ref_big4 (n : Nat) (hn : n < 18446744073709551616) : ref03_Big (n : Int) 4 = some (hd4 n) := by
  have hloop : loopN (fun s : Int × Int × (List UInt8) => ref03_Big.b1 s.1 s.2.1 s.2.2) (((IntKind.wrap .i64 (4 - 1)) - 0 : Int).toNat + 2) ((n : Int), IntKind.wrap .i64 (4 - 1), (List.replicate 8 0)) =
      some (.next (((n / 256 / 256 / 256 / 256 : Nat) : Int), -1, [u8of (IntKind.wrap .u8 ((n / 256 / 256 / 256 % 256 : Nat) : Int)), u8of (IntKind.wrap .u8 ((n / 256 / 256 % 256 : Nat) : Int)), u8of (IntKind.wrap .u8 ((n / 256 % 256 : Nat) : Int)), u8of (IntKind.wrap .u8 ((n % 256 : Nat) : Int)), 0, 0, 0, 0])) := by
    have k3 : IntKind.wrap .i64 (4 - 1) = ((3 : Nat) : Int) := by decide
    rw [k3]
    show loopN _ 5 _ = _
    have s0 := rbig_step n 3 (List.replicate 8 0) hn (by decide)
    have s1 := rbig_step (n / 256) 2 [0, 0, 0, u8of (IntKind.wrap .u8 ((n % 256 : Nat) : Int)), 0, 0, 0, 0] (by omega) (by decide)
    have s2 := rbig_step (n / 256 / 256) 1 [0, 0, u8of (IntKind.wrap .u8 ((n / 256 % 256 : Nat) : Int)), u8of (IntKind.wrap .u8 ((n % 256 : Nat) : Int)), 0, 0, 0, 0] (by omega) (by decide)
    have s3 := rbig_step (n / 256 / 256 / 256) 0 [0, u8of (IntKind.wrap .u8 ((n / 256 / 256 % 256 : Nat) : Int)), u8of (IntKind.wrap .u8 ((n / 256 % 256 : Nat) : Int)), u8of (IntKind.wrap .u8 ((n % 256 : Nat) : Int)), 0, 0, 0, 0] (by omega) (by decide)
    exact loop_cont 4 s0 (loop_cont 3 s1 (loop_cont 2 s2 (loop_cont 1 s3 (loop_brk 0 (rbig_end _ _)))))
  unfold ref03_Big
  refine bind_next hloop ?_
  show (if _ then _ else _) = _
  rw [if_pos (by decide), if_pos (by decide)]
  have e0 : u8of (IntKind.wrap .u8 (shr .u64 (n : Int) 24)) = u8of (IntKind.wrap .u8 ((n / 256 / 256 / 256 % 256 : Nat) : Int)) := UInt8.toNat_inj.1 (by rw [byteOf (q := 16777216) (by decide) (by decide), u8mod]; omega)
  have e1 : u8of (IntKind.wrap .u8 (shr .u64 (n : Int) 16)) = u8of (IntKind.wrap .u8 ((n / 256 / 256 % 256 : Nat) : Int)) := UInt8.toNat_inj.1 (by rw [byteOf (q := 65536) (by decide) (by decide), u8mod]; omega)
  have e2 : u8of (IntKind.wrap .u8 (shr .u64 (n : Int) 8)) = u8of (IntKind.wrap .u8 ((n / 256 % 256 : Nat) : Int)) := UInt8.toNat_inj.1 (by rw [byteOf (q := 256) (by decide) (by decide), u8mod])
  have e3 : u8of (IntKind.wrap .u8 (shr .u64 (n : Int) 0)) = u8of (IntKind.wrap .u8 ((n % 256 : Nat) : Int)) := UInt8.toNat_inj.1 (by rw [byteOf (q := 1) (by decide) (by decide), u8mod]; omega)
  unfold hd4
  rw [e0, e1, e2, e3]
  rfl
theorem wrap64 (i : Int) : ∃ n : Nat, IntKind.wrap .u64 i = (n : Int) ∧ n < 18446744073709551616 ∧ ((n : Int) = i % 18446744073709551616) := by
  refine ⟨(i % 18446744073709551616).toNat, ?_, by omega, by omega⟩
  simp only [IntKind.wrap, IntKind.bits, IntKind.signed]; simp; omega
theorem wrap32 (i : Int) : ∃ n : Nat, IntKind.wrap .u32 i = (n : Int) ∧ n < 4294967296 ∧ ((n : Int) = i % 4294967296) := by
  refine ⟨(i % 4294967296).toNat, ?_, by omega, by omega⟩
  simp only [IntKind.wrap, IntKind.bits, IntKind.signed]; simp; omega
theorem rword_eq (i : Int) : ref03_Big (IntKind.wrap .u64 i) 4 = some (wrd i) := by
  obtain ⟨n, h1, h2, h3⟩ := wrap64 i
  obtain ⟨m, k1, k2, k3⟩ := wrap32 i
  rw [h1, ref_big4 n h2]
  unfold wrd
  rw [k1]
  have hmn : m = n % 4294967296 := by omega
  unfold hd4
  have e0 : u8of (IntKind.wrap .u8 (shr .u64 (n : Int) 24)) = u8of (IntKind.wrap .u8 (shr .u64 (m : Int) 24)) := UInt8.toNat_inj.1 (by rw [byteOf (q := 16777216) (by decide) (by decide), byteOf (q := 16777216) (by decide) (by decide)]; omega)
  have e1 : u8of (IntKind.wrap .u8 (shr .u64 (n : Int) 16)) = u8of (IntKind.wrap .u8 (shr .u64 (m : Int) 16)) := UInt8.toNat_inj.1 (by rw [byteOf (q := 65536) (by decide) (by decide), byteOf (q := 65536) (by decide) (by decide)]; omega)
  have e2 : u8of (IntKind.wrap .u8 (shr .u64 (n : Int) 8)) = u8of (IntKind.wrap .u8 (shr .u64 (m : Int) 8)) := UInt8.toNat_inj.1 (by rw [byteOf (q := 256) (by decide) (by decide), byteOf (q := 256) (by decide) (by decide)]; omega)
  have e3 : u8of (IntKind.wrap .u8 (shr .u64 (n : Int) 0)) = u8of (IntKind.wrap .u8 (shr .u64 (m : Int) 0)) := UInt8.toNat_inj.1 (by rw [byteOf (q := 1) (by decide) (by decide), byteOf (q := 1) (by decide) (by decide)]; omega)
  rw [e0, e1, e2, e3]
theorem rbyte_eq (i : Int) : ref03_Big (IntKind.wrap .u64 i) 1 = some [by1 i] := by
  obtain ⟨n, h1, h2, h3⟩ := wrap64 i
  rw [h1, ref_big1 n h2]
  unfold by1
  have : IntKind.wrap .u8 ((n % 256 : Nat) : Int) = IntKind.wrap .u8 i := by
    simp only [IntKind.wrap, IntKind.bits, IntKind.signed]; simp; omega
  rw [this]
end Go.Proofs.YtnjkofmmpfehcaaDoorR
