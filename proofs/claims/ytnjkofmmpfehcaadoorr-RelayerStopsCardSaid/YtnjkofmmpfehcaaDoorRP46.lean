/- Plain laws of numbers of up to eight bytes that are read. -/
import Derived.Test.YtnjkofmmpfehcaaDoorRP41a
namespace Go.Proofs.YtnjkofmmpfehcaaDoorR
open Go Go.RowKit Go.Proofs
set_option linter.unusedVariables false

def vl (l : List UInt8) : Nat := l.foldl (fun a b => a * 256 + b.toNat) 0
theorem vl_snoc (l : List UInt8) (b : UInt8) : vl (l ++ [b]) = vl l * 256 + b.toNat := by simp [vl]
theorem vl_take (l : List UInt8) (i : Nat) (hi : i < l.length) : vl (l.take (i + 1)) = vl (l.take i) * 256 + (l[i]).toNat := by
  rw [List.take_succ_eq_append_getElem hi, vl_snoc]
theorem vl_lt : ∀ (n : Nat) (l : List UInt8), l.length = n → vl l < 256 ^ n
  | 0, l, h => by
    have : l = [] := List.length_eq_zero_iff.1 h
    subst this; simp [vl]
  | n + 1, l, h => by
    have h1 := vl_take l n (by omega)
    rw [List.take_of_length_le (by omega)] at h1
    have h2 := vl_lt n (l.take n) (by simp; omega)
    have h3 := (l[n]'(by omega)).toNat_lt
    rw [h1, Nat.pow_succ]
    omega
theorem pow7 {i : Nat} (h : i < 8) : 256 ^ i ≤ 72057594037927936 := by
  have : (256 : Nat) ^ i ≤ 256 ^ 7 := Nat.pow_le_pow_right (by decide) (by omega)
  simpa using this
theorem stepW8 (r1 : (List UInt8) × O_Rdr) (x i : Nat) (hx : x < 72057594037927936) (hi : i < r1.1.length) (hl : r1.1.length ≤ 100) :
    wire_Reader_number.b1 r1 (x : Int) (i : Int) = some (.cont (((x * 256 + (r1.1[i]).toNat : Nat) : Int), ((i + 1 : Nat) : Int))) := by
  have hb := (r1.1[i]).toNat_lt
  have e8 : shl .u64 (x : Int) 8 = IntKind.wrap .u64 ((x : Int) * 256) := rfl
  have e1 : ((i : Nat) : Int).toNat = i := by omega
  have e2 : r1.1.getD i default = r1.1[i] := by simp [List.getD, hi]
  unfold wire_Reader_number.b1
  rw [if_pos (by simp; omega), if_pos (by omega), e8, e1, e2, w64 (by omega)]
  generalize (r1.1[i]).toNat = b at hb
  rw [wu64 (by omega), wu64 (by omega), bits_join .u64 64 (by decide) (fun n h0 h1 => wu64 ⟨h0, by omega⟩) 8 ((x : Int) * 256) (b : Int) (by omega) (by omega) (by omega) (by omega) (by omega) (by omega)]
  rw [show ((x * 256 + b : Nat) : Int) = (x : Int) * 256 + b by omega]
  rfl
theorem numGW (n : Nat) (hn : n ≤ 8) (s : List UInt8) (e : Int) : wire_Reader_number ⟨s, e⟩ (n : Int) = some (((vl (tk n s e).1 : Nat) : Int), ⟨(tk n s e).2.1, (tk n s e).2.2⟩) := by
  unfold wire_Reader_number
  refine bind_of (tkW n s e) ?_
  have hL : (tk n s e).1.length ≤ 8 := by
    rcases tk_len n s e with h | h
    · rw [h]; simp
    · omega
  generalize hr : (((tk n s e).1, (⟨(tk n s e).2.1, (tk n s e).2.2⟩ : O_Rdr)) : (List UInt8) × O_Rdr) = r1
  have h1 : (tk n s e).1 = r1.1 := by rw [← hr]
  have h2 : (⟨(tk n s e).2.1, (tk n s e).2.2⟩ : O_Rdr) = r1.2 := by rw [← hr]
  rw [h1] at hL
  rw [h1, h2]
  obtain ⟨c, h3, h4⟩ := loop_ok (body := fun s : Int × Int => wire_Reader_number.b1 r1 s.1 s.2) (fun s => ∃ i : Nat, i ≤ r1.1.length ∧ s = (((vl (r1.1.take i) : Nat) : Int), (i : Int)))
      (fun c => match c with | .next s => s.1 = ((vl r1.1 : Nat) : Int) | .ret r => False) (fun s => (r1.1.length - s.2).toNat)
      (fun s ⟨i, hi, hs⟩ => by
        subst hs
        by_cases q : i < r1.1.length
        · have hx : vl (r1.1.take i) < 72057594037927936 := Nat.lt_of_lt_of_le (vl_lt i _ (by simp; omega)) (pow7 (by omega))
          refine .inl ⟨_, stepW8 r1 _ i hx q (by omega), ⟨i + 1, by omega, by rw [vl_take r1.1 i q]⟩, by simp; omega⟩
        · have : i = r1.1.length := by omega
          subst this
          refine .inr (.inl ⟨(((vl r1.1 : Nat) : Int), (r1.1.length : Int)), ?_, rfl⟩)
          show wire_Reader_number.b1 r1 _ (r1.1.length : Int) = _
          unfold wire_Reader_number.b1
          rw [if_neg (by simp), List.take_length]) (((r1.1.length : Int) - 0 : Int).toNat + 2) (0, 0) ⟨0, by omega, by simp [vl]⟩ (by simp)
  cases c with
  | ret r => exact h4.elim
  | next s =>
    have h4 : s.1 = ((vl r1.1 : Nat) : Int) := h4
    refine bind_next h3 ?_
    rw [← h4]
theorem vl8 {n : Nat} (hn : n ≤ 8) (s : List UInt8) (e : Int) : vl (tk n s e).1 < 256 ^ n := by
  rcases tk_len n s e with h | h
  · rw [h]; exact Nat.pow_pos (by decide)
  · exact vl_lt n _ h
end Go.Proofs.YtnjkofmmpfehcaaDoorR
