/- Plain laws: P5x, P8x, as one text. -/
import Derived.Test.YtnjkofmmpfehcaaDoorRP4c
import Derived.Test.YtnjkofmmpfehcaaDoorRP48
import Derived.Test.YtnjkofmmpfehcaaDoorRP48
namespace Go.Proofs.YtnjkofmmpfehcaaDoorR
open Go Go.RowKit Go.Proofs
section
set_option linter.unusedVariables false

theorem ref_text (p : List UInt8) (h : p.length < 4294967296) : ref03_Text p = some (hd4 p.length ++ p) := by
  unfold ref03_Text
  rw [wu64 (by omega), ref_big4 _ (by omega)]
  refine bind_of rfl ?_
  rw [if_pos (by simp only [hd4, List.length_cons, List.length_nil, mxl]; omega)]
theorem ref_input (d : Int) (ps : List (List UInt8)) (hp : ∀ p ∈ ps, p.length < 4294967296) (hl : (enc ps).length + 1 ≤ 140737488355328) (hn : ps.length < 4294967296) : ref04_Input d ps = some (u8of d :: enc ps) := by
  obtain ⟨c, h1, h2⟩ := loop_ok (body := fun s : (List UInt8) × Int => ref04_Input.b1 ps s.1 s.2) (fun s => ∃ i : Nat, i ≤ ps.length ∧ s = (u8of d :: enc (ps.take i), (i : Int)))
    (fun c => match c with | .next s => s.1 = u8of d :: enc ps | .ret _ => False) (fun s => (ps.length - s.2).toNat)
    (fun s ⟨i, hi, hs⟩ => by
      subst hs
      show (∃ s', ref04_Input.b1 ps (u8of d :: enc (ps.take i)) (i : Int) = some (.cont s') ∧ _) ∨ (∃ s', ref04_Input.b1 ps (u8of d :: enc (ps.take i)) (i : Int) = some (.brk s') ∧ _) ∨ _
      unfold ref04_Input.b1
      by_cases h : i < ps.length
      · have g : ps.getD (i : Int).toNat default = ps[i] := by simp [List.getD, h]
        have htk : ps.take (i + 1) = ps.take i ++ [ps[i]] := List.take_succ_eq_append_getElem h
        have hbound : (enc (ps.take (i + 1))).length ≤ (enc ps).length := by
          have : ps = ps.take (i + 1) ++ ps.drop (i + 1) := (List.take_append_drop _ _).symm
          conv => rhs; rw [this, enc_append]
          simp
        rw [htk, enc_append] at hbound
        rw [if_pos (by simpa using h), if_pos (by omega), g, ref_text _ (hp _ (List.getElem_mem h)), Option.bind_some, if_pos (by simp only [enc, mxl, List.length_append, List.length_cons, List.append_nil] at hbound ⊢; omega), w64 (by omega)]
        refine .inl ⟨_, rfl, ⟨i + 1, by omega, ?_⟩, by simp; omega⟩
        rw [htk, enc_append]
        simp [enc]
      · rw [if_neg (by simpa using h)]
        have : i = ps.length := by omega
        subst this
        exact .inr (.inl ⟨_, rfl, by simp⟩)) (((ps.length : Int) - 0 : Int).toNat + 2) ([u8of d], 0) ⟨0, by omega, rfl⟩ (by simp)
  unfold ref04_Input
  cases c with
  | ret r => exact h2.elim
  | next s =>
    refine bind_next h1 ?_
    obtain ⟨x, y⟩ := s
    have h2 : x = _ := h2
    rw [h2]
end

section
set_option linter.unusedVariables false

theorem Small.R {ps : List (List UInt8)} (h : Small ps) (d : Int) : ref01_Sum (inp d ps) = some (Go.Proofs.YtnjkofmmpfehcaaDoorR.H (inp d ps)) := by
  obtain ⟨x, h1, h2, _⟩ := sum_eq (inp d ps) (by have := h.enc; simp [inp, mxl]; omega)
  rw [(h.H d).1] at h1
  rw [h2, h1]
theorem rNone (d : Int) {ps : List (List UInt8)} (h : Small ps) : ref04_Log_Of none d ps = some (H (inp d ps), none) := by
  have he := h.enc
  unfold ref04_Log_Of
  exact bind_of (ref_input d ps (fun p hp => by have := h.1 p hp; omega) (by omega) (by have := h.2; omega)) (bind_of (h.R d) (bind_of rfl rfl))
end
end Go.Proofs.YtnjkofmmpfehcaaDoorR
