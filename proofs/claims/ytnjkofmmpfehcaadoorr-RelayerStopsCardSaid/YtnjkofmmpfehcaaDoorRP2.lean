/- Plain law of DigestInputs: unlike domains and parts are noted as unlike inputs; the same ones once. -/
import Derived.Test.YtnjkofmmpfehcaaDoorRP1
namespace Go.Proofs.YtnjkofmmpfehcaaDoorR
open Go Go.RowKit Go.Proofs
set_option linter.unusedVariables false

/-- A length, in four bytes. -/
def hd4 (n : Int) : List UInt8 := [u8of (IntKind.wrap .u8 (shr .u64 n 24)), u8of (IntKind.wrap .u8 (shr .u64 n 16)), u8of (IntKind.wrap .u8 (shr .u64 n 8)), u8of (IntKind.wrap .u8 (shr .u64 n 0))]
theorem big4 (n : Int) : wire_big n 4 = some (hd4 n) := rfl
theorem wu32 {x : Int} (h : 0 ≤ x ∧ x < 4294967296) : IntKind.wrap .u32 x = x := by
  simp only [IntKind.wrap, IntKind.bits, IntKind.signed]
  simp
  omega
theorem wu64 {x : Int} (h : 0 ≤ x ∧ x < 18446744073709551616) : IntKind.wrap .u64 x = x := by
  simp only [IntKind.wrap, IntKind.bits, IntKind.signed]
  simp
  omega
theorem byteOf {n : Nat} {q : Nat} {k : Int} (hk : (2 : Int) ^ (min k.toNat IntKind.u64.bits) = q) (hq : 0 < q) : (u8of (IntKind.wrap .u8 (shr .u64 (n : Int) k))).toNat = n / q % 256 := by
  unfold shr
  rw [hk, Int.fdiv_eq_ediv_of_nonneg _ (by omega)]
  have h1 : ((n : Int) / (q : Int)) = ((n / q : Nat) : Int) := by simp
  rw [h1]
  generalize n / q = m
  simp only [IntKind.wrap, IntKind.bits, IntKind.signed, u8of]
  simp
  omega
theorem hd4_inj {n m : Nat} (hn : n < 4294967296) (hm : m < 4294967296) (h : hd4 n = hd4 m) : n = m := by
  unfold hd4 at h
  simp only [List.cons.injEq, and_true] at h
  obtain ⟨h1, h2, h3, h4⟩ := h
  have e1 := congrArg UInt8.toNat h1
  have e2 := congrArg UInt8.toNat h2
  have e3 := congrArg UInt8.toNat h3
  have e4 := congrArg UInt8.toNat h4
  rw [byteOf (q := 16777216) (by decide) (by decide), byteOf (q := 16777216) (by decide) (by decide)] at e1
  rw [byteOf (q := 65536) (by decide) (by decide), byteOf (q := 65536) (by decide) (by decide)] at e2
  rw [byteOf (q := 256) (by decide) (by decide), byteOf (q := 256) (by decide) (by decide)] at e3
  rw [byteOf (q := 1) (by decide) (by decide), byteOf (q := 1) (by decide) (by decide)] at e4
  omega
theorem text_eq (p : List UInt8) (h : p.length < 4294967296) : wire_Text p = some (hd4 p.length ++ p) := by
  unfold wire_Text wire_Word
  rw [wu32 (by omega), wu64 (by omega), big4]
  simp only [Option.bind_some]
  rw [if_pos (by simp only [hd4, List.length_cons, List.length_nil, mxl]; omega)]
/-- Parts, each behind its length. -/
def enc : List (List UInt8) → List UInt8
  | [] => []
  | p :: ps => hd4 p.length ++ p ++ enc ps
theorem enc_append : ∀ (ps qs : List (List UInt8)), enc (ps ++ qs) = enc ps ++ enc qs
  | [], qs => rfl
  | p :: ps, qs => by simp [enc, enc_append ps qs]
theorem enc_inj : ∀ (ps qs : List (List UInt8)), (∀ p ∈ ps, p.length < 4294967296) → (∀ p ∈ qs, p.length < 4294967296) → enc ps = enc qs → ps = qs
  | [], [], _, _, _ => rfl
  | [], q :: qs, _, _, h => by have := congrArg List.length h; simp [enc, hd4] at this
  | p :: ps, [], _, _, h => by have := congrArg List.length h; simp [enc, hd4] at this
  | p :: ps, q :: qs, hp, hq, h => by
    simp only [enc, List.append_assoc] at h
    have hl : (hd4 (p.length : Int)).length = (hd4 (q.length : Int)).length := rfl
    obtain ⟨h1, h2⟩ := List.append_inj h hl
    have h3 := hd4_inj (hp p (by simp)) (hq q (by simp)) h1
    obtain ⟨h4, h5⟩ := List.append_inj h2 h3
    rw [h4, enc_inj ps qs (fun x hx => hp x (by simp [hx])) (fun x hx => hq x (by simp [hx])) h5]
theorem enc_take_len (ps : List (List UInt8)) (i : Nat) : (enc (ps.take i)).length ≤ (enc ps).length := by
  have := enc_append (ps.take i) (ps.drop i)
  rw [List.take_append_drop] at this
  rw [this]; simp
theorem input_eq (d : Int) (ps : List (List UInt8)) (hp : ∀ p ∈ ps, p.length < 4294967296) (hl : (enc ps).length + 1 ≤ 140737488355328) (hn : ps.length < 4294967296) : digest_input d ps = some (u8of d :: enc ps) := by
  unfold digest_input strings_Builder_WriteByte
  rw [if_pos (by simp [mxl])]
  simp only [Option.bind_some]
  obtain ⟨c, h1, h2⟩ := loop_ok (body := fun s : Int × O_Bld => digest_input.b1 ps s.1 s.2) (fun s => ∃ i : Nat, i ≤ ps.length ∧ s = ((i : Int), ⟨u8of d :: enc (ps.take i)⟩)) (fun c => match c with | .next s => s.2 = ⟨u8of d :: enc ps⟩ | .ret _ => False) (fun s => (ps.length - s.1).toNat)
    (fun s ⟨i, hi, hs⟩ => by
      subst hs
      by_cases h : i < ps.length
      · refine .inl ?_
        show ∃ s', digest_input.b1 ps (i : Int) ⟨u8of d :: enc (ps.take i)⟩ = some (.cont s') ∧ _
        unfold digest_input.b1
        rw [if_pos (by simpa using h), if_pos (by omega)]
        have hg : ps.getD (i : Int).toNat default = ps[i] := by simp [List.getD, h]
        rw [hg, text_eq _ (hp _ (List.getElem_mem h)), Option.bind_some]
        unfold strings_Builder_WriteString
        have he : enc (ps.take (i + 1)) = enc (ps.take i) ++ (hd4 (ps[i].length : Int) ++ ps[i]) := by
          rw [List.take_succ_eq_append_getElem h, enc_append]; simp [enc]
        have hlen := enc_take_len ps (i + 1)
        rw [he] at hlen
        simp only [List.length_append] at hlen
        rw [if_pos (by simp only [List.length_cons, List.length_append, mxl]; omega), Option.bind_some]
        simp (disch := omega) only [w64]
        refine ⟨_, rfl, ⟨i + 1, by omega, ?_⟩, by show (ps.length - ((i : Int) + 1)).toNat < (ps.length - (i : Int)).toNat; omega⟩
        rw [he]; simp
      · have hi' : i = ps.length := by omega
        subst hi'
        exact .inr (.inl ⟨_, by show digest_input.b1 ps _ _ = _; unfold digest_input.b1; rw [if_neg (by simp)], by simp⟩)) (((ps.length : Int) - 0 : Int).toNat + 2) (0, ⟨[] ++ [u8of d]⟩) ⟨0, by omega, by simp [enc]⟩ (by simp)
  rw [h1]
  cases c with
  | ret r => exact h2.elim
  | next s =>
    obtain ⟨i, y⟩ := s
    have h2 : y = ⟨u8of d :: enc ps⟩ := h2
    subst h2
    simp only [Option.bind_some, strings_Builder_String]
    rw [if_pos (by simp)]
    rfl
end Go.Proofs.YtnjkofmmpfehcaaDoorR
