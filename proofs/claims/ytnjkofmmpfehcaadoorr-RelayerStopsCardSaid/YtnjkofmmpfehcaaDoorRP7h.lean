/- Plain laws of lamport: what is a secret, a public, a key's word, a signature. -/
import Derived.Test.YtnjkofmmpfehcaaDoorRP2
namespace Go.Proofs.YtnjkofmmpfehcaaDoorR
open Go Go.RowKit Go.Proofs
set_option linter.unusedVariables false

noncomputable def H (x : List UInt8) : List UInt8 := Classical.epsilon fun d => sha_Sum [x] = some d
theorem H_eq {x : List UInt8} (h : x.length ≤ 1000000) : sha_Sum [x] = some (H x) ∧ (H x).length = 32 := by
  obtain ⟨d, h1, h2⟩ := sum_total x (by simp [mxl]; omega)
  have h3 : sha_Sum [x] = some (H x) := Classical.epsilon_spec (p := fun d => sha_Sum [x] = some d) ⟨d, h1⟩
  refine ⟨h3, ?_⟩
  rw [h1] at h3
  rw [← Option.some.inj h3]
  exact h2
def inp (d : Int) (ps : List (List UInt8)) : List UInt8 := u8of d :: enc ps
/-- Bounds of the parts of an ask. -/
def Small (ps : List (List UInt8)) : Prop := (∀ p ∈ ps, p.length ≤ 5000) ∧ ps.length ≤ 20
theorem Small.enc {ps : List (List UInt8)} (h : Small ps) : (enc ps).length ≤ 20 * 5004 := by
  have : ∀ (ps : List (List UInt8)), (∀ p ∈ ps, p.length ≤ 5000) → (Go.Proofs.YtnjkofmmpfehcaaDoorR.enc ps).length ≤ ps.length * 5004 := by
    intro ps
    induction ps with
    | nil => intro _; simp [Go.Proofs.YtnjkofmmpfehcaaDoorR.enc]
    | cons p ps ih =>
      intro hp
      have h1 := ih fun q hq => hp q (by simp [hq])
      have h2 := hp p (by simp)
      simp only [Go.Proofs.YtnjkofmmpfehcaaDoorR.enc, List.length_append, List.length_cons]
      simp [hd4]
      omega
  exact Nat.le_trans (this ps h.1) (Nat.mul_le_mul_right _ h.2)
theorem Small.H {ps : List (List UInt8)} (h : Small ps) (d : Int) : sha_Sum [inp d ps] = some (H (inp d ps)) ∧ (Go.Proofs.YtnjkofmmpfehcaaDoorR.H (inp d ps)).length = 32 :=
  H_eq (by have := h.enc; simp [inp]; omega)
theorem note_total (L : Option O_Log) (g s : List UInt8) : ∃ L', digest_Log_note L g s = some L' ∧ (L = none → L' = none) := by
  cases L with
  | none => exact ⟨none, rfl, fun _ => rfl⟩
  | some L =>
    show ∃ L', digest_Log_note.s L g s = some L' ∧ _
    unfold digest_Log_note.s digest_Log_note.j1 digest_Log_note.j2
    repeat' split
    all_goals exact ⟨_, rfl, fun h => by cases h⟩
theorem dOf (L : Option O_Log) (d : Int) {ps : List (List UInt8)} (h : Small ps) : ∃ L', digest_Log_Of L d ps = some (H (inp d ps), L') ∧ (L = none → L' = none) := by
  obtain ⟨L', h1, h2⟩ := note_total L (H (inp d ps)) (inp d ps)
  have he := h.enc
  refine ⟨L', ?_, h2⟩
  unfold digest_Log_Of
  exact bind_of (input_eq d ps (fun p hp => by have := h.1 p hp; omega) (by omega) (by have := h.2; omega)) (bind_of (h.H d).1 (bind_of h1 rfl))
def wrd (i : Int) : List UInt8 := hd4 (IntKind.wrap .u32 i)
def by1 (i : Int) : UInt8 := u8of (IntKind.wrap .u8 i)
theorem wu8_8 (i : Int) : IntKind.wrap .u8 (shr .u64 (IntKind.wrap .u64 (IntKind.wrap .u8 i)) 0) = IntKind.wrap .u8 i := by
  have h : 0 ≤ IntKind.wrap .u8 i ∧ IntKind.wrap .u8 i < 256 := by
    simp only [IntKind.wrap, IntKind.bits, IntKind.signed]; simp; omega
  rw [wu64 (by omega)]
  have h2 : shr .u64 (IntKind.wrap .u8 i) 0 = IntKind.wrap .u8 i := by
    unfold shr; simp
  rw [h2]
  simp only [IntKind.wrap, IntKind.bits, IntKind.signed]; simp
theorem byte_eq (i : Int) : wire_Byte (IntKind.wrap .u8 i) = some [by1 i] := by
  have h : ∀ n, wire_big n 1 = some [u8of (IntKind.wrap .u8 (shr .u64 n 0))] := fun _ => rfl
  unfold wire_Byte
  rw [h]
  refine bind_of rfl ?_
  rw [wu8_8]
  rfl
theorem word_text (i : Int) : wire_Word (IntKind.wrap .u32 i) = some (wrd i) := by
  unfold wire_Word
  have h : 0 ≤ IntKind.wrap .u32 i ∧ IntKind.wrap .u32 i < 4294967296 := by
    simp only [IntKind.wrap, IntKind.bits, IntKind.signed]; simp; omega
  rw [wu64 (by omega), big4]
  rfl
theorem dig_eq {x : List UInt8} (h : x.length = 32) : wire_Digest x = some x := by
  have : x.take ((32 : Int).toNat - (0 : Int).toNat) = x := List.take_of_length_le (by rw [h]; decide)
  unfold wire_Digest
  rw [this]
def secP (seed : List UInt8) (idx i b : Int) : List (List UInt8) := [seed, wrd idx, [by1 i], [by1 b]]
theorem secSmall {seed : List UInt8} (h : seed.length = 32) (idx i b : Int) : Small (secP seed idx i b) := by
  refine ⟨fun p hp => ?_, by simp [secP]⟩
  simp only [secP, List.mem_cons, List.not_mem_nil, or_false] at hp
  rcases hp with rfl | rfl | rfl | rfl
  · omega
  · simp [wrd, hd4]
  · simp
  · simp
theorem pubSmall {s : List UInt8} (h : s.length = 32) : Small [s] := ⟨fun p hp => by rw [List.mem_singleton.1 hp]; omega, by simp⟩
noncomputable def sec (seed : List UInt8) (idx i b : Int) : List UInt8 := H (inp 1 (secP seed idx i b))
noncomputable def pub (s : List UInt8) : List UInt8 := H (inp 2 [s])
theorem sec_len {seed : List UInt8} (h : seed.length = 32) (idx i b : Int) : (sec seed idx i b).length = 32 := ((secSmall h idx i b).H 1).2
theorem pub_len {s : List UInt8} (h : s.length = 32) : (pub s).length = 32 := ((pubSmall h).H 2).2
end Go.Proofs.YtnjkofmmpfehcaaDoorR
