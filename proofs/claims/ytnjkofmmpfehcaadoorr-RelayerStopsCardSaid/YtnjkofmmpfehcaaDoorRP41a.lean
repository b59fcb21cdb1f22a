/- Plain laws of bytes that are read: the program's reader and the document's, in one form. -/
import Derived.Test.YtnjkofmmpfehcaaDoorRP5m
import Derived.Laws.BitsLemmas
namespace Go.Proofs.YtnjkofmmpfehcaaDoorR
open Go Go.RowKit Go.Proofs
set_option linter.unusedVariables false

def tk (n : Nat) (s : List UInt8) (e : Int) : List UInt8 × List UInt8 × Int := if e = 0 then (if s.length < n then ([], s, 3) else (s.take n, s.drop n, 0)) else ([], s, e)
theorem tkW (n : Nat) (s : List UInt8) (e : Int) : wire_Reader_take ⟨s, e⟩ (n : Int) = some ((tk n s e).1, ⟨(tk n s e).2.1, (tk n s e).2.2⟩) := by
  unfold wire_Reader_take tk
  by_cases he : e = 0
  · subst he
    rw [if_neg (by simp)]
    by_cases h : s.length < n
    · rw [if_pos (by simp; omega)]; simp [h]
    · rw [if_neg (by simp; omega), if_pos (by simp; omega), if_pos (by simp; omega)]; simp [h]
  · rw [if_pos (by simp [he])]; simp [he]
theorem tk_len (n : Nat) (s : List UInt8) (e : Int) : (tk n s e).1 = [] ∨ (tk n s e).1.length = n := by
  unfold tk
  split
  · split
    · exact .inl rfl
    · exact .inr (by simp; omega)
  · exact .inl rfl
theorem tk_rest (n : Nat) (s : List UInt8) (e : Int) : (tk n s e).2.1.length ≤ s.length := by
  unfold tk
  split
  · split
    · exact Nat.le_refl _
    · simp
  · exact Nat.le_refl _
def num4 (l : List UInt8) : Nat := match l with | [a, b, c, d] => ((a.toNat * 256 + b.toNat) * 256 + c.toNat) * 256 + d.toNat | _ => 0
theorem num4_lt (l : List UInt8) : num4 l < 4294967296 := by
  unfold num4
  split
  · rename_i a b c d
    have := a.toNat_lt; have := b.toNat_lt; have := c.toNat_lt; have := d.toNat_lt
    omega
  · decide
theorem stepW (r1 : (List UInt8) × O_Rdr) (x i : Nat) (hx : x < 16777216) (hi : i < r1.1.length) (hl : r1.1.length ≤ 100) :
    wire_Reader_number.b1 r1 (x : Int) (i : Int) = some (.cont (((x * 256 + (r1.1.getD i default).toNat : Nat) : Int), ((i + 1 : Nat) : Int))) := by
  have hb := (r1.1.getD i default).toNat_lt
  have e8 : shl .u64 (x : Int) 8 = IntKind.wrap .u64 ((x : Int) * 256) := rfl
  have e1 : ((i : Nat) : Int).toNat = i := by omega
  unfold wire_Reader_number.b1
  rw [if_pos (by simp; omega), if_pos (by omega), e8, e1, w64 (by omega)]
  generalize (r1.1.getD i default).toNat = b at hb
  rw [wu64 (by omega), wu64 (by omega), bits_join .u64 64 (by decide) (fun n h0 h1 => wu64 ⟨h0, by omega⟩) 8 ((x : Int) * 256) (b : Int) (by omega) (by omega) (by omega) (by omega) (by omega) (by omega)]
  rw [show ((x * 256 + b : Nat) : Int) = (x : Int) * 256 + b by omega]
  rfl
theorem numW (s : List UInt8) (e : Int) : wire_Reader_number ⟨s, e⟩ 4 = some (((num4 (tk 4 s e).1 : Nat) : Int), ⟨(tk 4 s e).2.1, (tk 4 s e).2.2⟩) := by
  unfold wire_Reader_number
  refine bind_of (tkW 4 s e) ?_
  generalize hr : (((tk 4 s e).1, (⟨(tk 4 s e).2.1, (tk 4 s e).2.2⟩ : O_Rdr)) : (List UInt8) × O_Rdr) = r1
  have h1 : r1.1 = (tk 4 s e).1 := by rw [← hr]
  have h2 : r1.2 = ⟨(tk 4 s e).2.1, (tk 4 s e).2.2⟩ := by rw [← hr]
  rcases tk_len 4 s e with h | h
  · rw [← h1] at h
    refine bind_next (s := (0, 0)) ?_ (by rw [h2, ← h1, h]; rfl)
    rw [h]
    refine loop_brk 1 ?_
    show wire_Reader_number.b1 r1 0 0 = _
    unfold wire_Reader_number.b1
    rw [if_neg (by rw [h]; simp)]
  · rw [← h1] at h
    obtain ⟨a, b, c, d, hl⟩ : ∃ a b c d, r1.1 = [a, b, c, d] := by
      match hq : r1.1, h with
      | [a, b, c, d], _ => exact ⟨a, b, c, d, rfl⟩
    have := a.toNat_lt; have := b.toNat_lt; have := c.toNat_lt; have := d.toNat_lt
    refine bind_next (s := (((num4 r1.1 : Nat) : Int), 4)) ?_ (by rw [h2, ← h1])
    have s0 := stepW r1 0 0 (by omega) (by omega) (by omega)
    have s1 := stepW r1 a.toNat 1 (by omega) (by omega) (by omega)
    have s2 := stepW r1 (a.toNat * 256 + b.toNat) 2 (by omega) (by omega) (by omega)
    have s3 := stepW r1 ((a.toNat * 256 + b.toNat) * 256 + c.toNat) 3 (by omega) (by omega) (by omega)
    have g0 : r1.1.getD 0 default = a := by rw [hl]; rfl
    have g1 : r1.1.getD 1 default = b := by rw [hl]; rfl
    have g2 : r1.1.getD 2 default = c := by rw [hl]; rfl
    have g3 : r1.1.getD 3 default = d := by rw [hl]; rfl
    rw [g0, Nat.zero_mul, Nat.zero_add] at s0
    rw [g1] at s1
    rw [g2] at s2
    rw [g3] at s3
    have hf : ((r1.1.length : Int) - 0 : Int).toNat + 2 = 6 := by omega
    rw [hf]
    have hn : num4 r1.1 = ((a.toNat * 256 + b.toNat) * 256 + c.toNat) * 256 + d.toNat := by rw [hl]; rfl
    rw [hn]
    refine loop_cont (body := fun s : Int × Int => wire_Reader_number.b1 r1 s.1 s.2) 5 s0 (loop_cont 4 s1 (loop_cont 3 s2 (loop_cont 2 s3 (loop_brk 1 ?_))))
    show wire_Reader_number.b1 r1 _ _ = _
    unfold wire_Reader_number.b1
    rw [if_neg (by simp; omega)]
    rfl
theorem wordRd (s : List UInt8) (e : Int) : wire_Reader_Word ⟨s, e⟩ = some (((num4 (tk 4 s e).1 : Nat) : Int), ⟨(tk 4 s e).2.1, (tk 4 s e).2.2⟩) := by
  unfold wire_Reader_Word
  refine bind_of (numW s e) ?_
  have := num4_lt (tk 4 s e).1
  rw [wu32 (by omega)]
def dg (l : List UInt8) : List UInt8 := if l = [] then List.replicate 32 0 else l
theorem dg_len (s : List UInt8) (e : Int) : (dg (tk 32 s e).1).length = 32 := by
  unfold dg
  rcases tk_len 32 s e with h | h
  · rw [if_pos h]; simp
  · rw [if_neg (by intro q; rw [q] at h; simp at h)]; exact h
theorem digW (s : List UInt8) (e : Int) : wire_Reader_Digest ⟨s, e⟩ = some (dg (tk 32 s e).1, ⟨(tk 32 s e).2.1, (tk 32 s e).2.2⟩) := by
  unfold wire_Reader_Digest
  refine bind_of (tkW 32 s e) ?_
  unfold dg
  rcases tk_len 32 s e with h | h
  · rw [h]; rfl
  · rw [if_neg (by intro q; rw [q] at h; simp at h)]
    show some ((List.replicate 32 0).take 0 ++ (tk 32 s e).1.take (min (tk 32 s e).1.length 32) ++ (List.replicate 32 0).drop (0 + (min (tk 32 s e).1.length 32)), _) = _
    rw [h]
    simp [h, List.take_of_length_le]
end Go.Proofs.YtnjkofmmpfehcaaDoorR
