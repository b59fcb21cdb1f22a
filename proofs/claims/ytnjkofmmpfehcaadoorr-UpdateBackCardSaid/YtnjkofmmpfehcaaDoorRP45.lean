/- Plain laws: P41, P42, P43, P44, P45, as one text. -/
import Derived.Test.YtnjkofmmpfehcaaDoorRP5n
import Derived.Laws.BitsLemmas
import Derived.Test.YtnjkofmmpfehcaaDoorRP21
import Derived.Test.YtnjkofmmpfehcaaDoorRP33t
import Derived.Test.YtnjkofmmpfehcaaDoorRP24a
import Derived.Test.YtnjkofmmpfehcaaDoorRP32
namespace Go.Proofs.YtnjkofmmpfehcaaDoorR
open Go Go.RowKit Go.Proofs
section
set_option linter.unusedVariables false

def tk (n : Nat) (s : List UInt8) (e : Int) : List UInt8 × List UInt8 × Int := if e = 0 then (if s.length < n then ([], s, 3) else (s.take n, s.drop n, 0)) else ([], s, e)
theorem tkW (n : Nat) (s : List UInt8) (e : Int) : wire_Reader_take ⟨s, e⟩ (n : Int) = some ((tk n s e).1, ⟨(tk n s e).2.1, (tk n s e).2.2⟩) := by
  unfold wire_Reader_take tk
  by_cases he : e = 0
  · subst he
    rw [if_neg (by simp)]
    by_cases h : s.length < n
    · rw [if_pos (by simp; omega)]; simp [h]
    · rw [if_neg (by simp; omega), if_pos (by simp; omega), if_pos (by simp; omega)]; simp [h]
  · rw [if_pos (by simp [he])]; simp [he]
theorem tkR (n : Nat) (s : List UInt8) (e : Int) : ref03_Reader_Take ⟨s, e⟩ (n : Int) = some ((tk n s e).1, ⟨(tk n s e).2.1, (tk n s e).2.2⟩) := by
  unfold ref03_Reader_Take ref03_Reader_Take.j1 ref03_Reader_Take.j2 tk
  by_cases he : e = 0
  · subst he
    rw [if_pos (by simp)]
    by_cases h : s.length < n
    · rw [if_pos (by simp; omega), if_pos (by simp)]; simp [h]
    · rw [if_neg (by simp; omega), if_neg (by simp), if_pos (by simp; omega), if_pos (by simp; omega)]; simp [h]
  · rw [if_neg (by simp [he]), if_neg (by simp), if_pos (by simp [he])]; simp [he]
theorem tk_len (n : Nat) (s : List UInt8) (e : Int) : (tk n s e).1 = [] ∨ (tk n s e).1.length = n := by
  unfold tk
  split
  · split
    · exact .inl rfl
    · exact .inr (by simp; omega)
  · exact .inl rfl
theorem tk_rest (n : Nat) (s : List UInt8) (e : Int) : (tk n s e).2.1.length ≤ s.length := by
  unfold tk
  split
  · split
    · exact Nat.le_refl _
    · simp
  · exact Nat.le_refl _
def num4 (l : List UInt8) : Nat := match l with | [a, b, c, d] => ((a.toNat * 256 + b.toNat) * 256 + c.toNat) * 256 + d.toNat | _ => 0
theorem num4_lt (l : List UInt8) : num4 l < 4294967296 := by
  unfold num4
  split
  · rename_i a b c d
    have := a.toNat_lt; have := b.toNat_lt; have := c.toNat_lt; have := d.toNat_lt
    omega
  · decide
theorem stepW (r1 : (List UInt8) × O_Rdr) (x i : Nat) (hx : x < 16777216) (hi : i < r1.1.length) (hl : r1.1.length ≤ 100) :
    wire_Reader_number.b1 r1 (x : Int) (i : Int) = some (.cont (((x * 256 + (r1.1.getD i default).toNat : Nat) : Int), ((i + 1 : Nat) : Int))) := by
  have hb := (r1.1.getD i default).toNat_lt
  have e8 : shl .u64 (x : Int) 8 = IntKind.wrap .u64 ((x : Int) * 256) := rfl
  have e1 : ((i : Nat) : Int).toNat = i := by omega
  unfold wire_Reader_number.b1
  rw [if_pos (by simp; omega), if_pos (by omega), e8, e1, w64 (by omega)]
  generalize (r1.1.getD i default).toNat = b at hb
  rw [wu64 (by omega), wu64 (by omega), bits_join .u64 64 (by decide) (fun n h0 h1 => wu64 ⟨h0, by omega⟩) 8 ((x : Int) * 256) (b : Int) (by omega) (by omega) (by omega) (by omega) (by omega) (by omega)]
  rw [show ((x * 256 + b : Nat) : Int) = (x : Int) * 256 + b by omega]
  rfl
theorem stepR (r1 : (List UInt8) × O_RRdr) (x i : Nat) (hx : x < 16777216) (hi : i < r1.1.length) (hl : r1.1.length ≤ 100) :
    ref03_Reader_Number.b1 r1 (x : Int) (i : Int) = some (.cont (((x * 256 + (r1.1.getD i default).toNat : Nat) : Int), ((i + 1 : Nat) : Int))) := by
  have hb := (r1.1.getD i default).toNat_lt
  have e1 : ((i : Nat) : Int).toNat = i := by omega
  have e2 : r1.1.getD i 0 = r1.1.getD i default := rfl
  unfold ref03_Reader_Number.b1
  rw [if_pos (by simp; omega), if_pos (by omega), e1, e2, w64 (by omega)]
  generalize (r1.1.getD i default).toNat = b at hb
  rw [wu64 (x := (b : Int)) (by omega), wu64 (x := (x : Int) * 256) (by omega), wu64 (by omega)]
  rw [show ((x * 256 + b : Nat) : Int) = (x : Int) * 256 + b by omega]
  rfl
theorem numW (s : List UInt8) (e : Int) : wire_Reader_number ⟨s, e⟩ 4 = some (((num4 (tk 4 s e).1 : Nat) : Int), ⟨(tk 4 s e).2.1, (tk 4 s e).2.2⟩) := by
  unfold wire_Reader_number
  refine bind_of (tkW 4 s e) ?_
  generalize hr : (((tk 4 s e).1, (⟨(tk 4 s e).2.1, (tk 4 s e).2.2⟩ : O_Rdr)) : (List UInt8) × O_Rdr) = r1
  have h1 : r1.1 = (tk 4 s e).1 := by rw [← hr]
  have h2 : r1.2 = ⟨(tk 4 s e).2.1, (tk 4 s e).2.2⟩ := by rw [← hr]
  rcases tk_len 4 s e with h | h
  · rw [← h1] at h
    refine bind_next (s := (0, 0)) ?_ (by rw [h2, ← h1, h]; rfl)
    rw [h]
    refine loop_brk 1 ?_
    show wire_Reader_number.b1 r1 0 0 = _
    unfold wire_Reader_number.b1
    rw [if_neg (by rw [h]; simp)]
  · rw [← h1] at h
    obtain ⟨a, b, c, d, hl⟩ : ∃ a b c d, r1.1 = [a, b, c, d] := by
      match hq : r1.1, h with
      | [a, b, c, d], _ => exact ⟨a, b, c, d, rfl⟩
    have := a.toNat_lt; have := b.toNat_lt; have := c.toNat_lt; have := d.toNat_lt
    refine bind_next (s := (((num4 r1.1 : Nat) : Int), 4)) ?_ (by rw [h2, ← h1])
    have s0 := stepW r1 0 0 (by omega) (by omega) (by omega)
    have s1 := stepW r1 a.toNat 1 (by omega) (by omega) (by omega)
    have s2 := stepW r1 (a.toNat * 256 + b.toNat) 2 (by omega) (by omega) (by omega)
    have s3 := stepW r1 ((a.toNat * 256 + b.toNat) * 256 + c.toNat) 3 (by omega) (by omega) (by omega)
    have g0 : r1.1.getD 0 default = a := by rw [hl]; rfl
    have g1 : r1.1.getD 1 default = b := by rw [hl]; rfl
    have g2 : r1.1.getD 2 default = c := by rw [hl]; rfl
    have g3 : r1.1.getD 3 default = d := by rw [hl]; rfl
    rw [g0, Nat.zero_mul, Nat.zero_add] at s0
    rw [g1] at s1
    rw [g2] at s2
    rw [g3] at s3
    have hf : ((r1.1.length : Int) - 0 : Int).toNat + 2 = 6 := by omega
    rw [hf]
    have hn : num4 r1.1 = ((a.toNat * 256 + b.toNat) * 256 + c.toNat) * 256 + d.toNat := by rw [hl]; rfl
    rw [hn]
    refine loop_cont (body := fun s : Int × Int => wire_Reader_number.b1 r1 s.1 s.2) 5 s0 (loop_cont 4 s1 (loop_cont 3 s2 (loop_cont 2 s3 (loop_brk 1 ?_))))
    show wire_Reader_number.b1 r1 _ _ = _
    unfold wire_Reader_number.b1
    rw [if_neg (by simp; omega)]
    rfl
theorem numR (s : List UInt8) (e : Int) : ref03_Reader_Number ⟨s, e⟩ 4 = some (((num4 (tk 4 s e).1 : Nat) : Int), ⟨(tk 4 s e).2.1, (tk 4 s e).2.2⟩) := by
  unfold ref03_Reader_Number
  refine bind_of (tkR 4 s e) ?_
  generalize hr : (((tk 4 s e).1, (⟨(tk 4 s e).2.1, (tk 4 s e).2.2⟩ : O_RRdr)) : (List UInt8) × O_RRdr) = r1
  have h1 : r1.1 = (tk 4 s e).1 := by rw [← hr]
  have h2 : r1.2 = ⟨(tk 4 s e).2.1, (tk 4 s e).2.2⟩ := by rw [← hr]
  rcases tk_len 4 s e with h | h
  · rw [← h1] at h
    refine bind_next (s := (0, 0)) ?_ (by rw [h2, ← h1, h]; rfl)
    rw [h]
    refine loop_brk 1 ?_
    show ref03_Reader_Number.b1 r1 0 0 = _
    unfold ref03_Reader_Number.b1
    rw [if_neg (by rw [h]; simp)]
  · rw [← h1] at h
    obtain ⟨a, b, c, d, hl⟩ : ∃ a b c d, r1.1 = [a, b, c, d] := by
      match hq : r1.1, h with
      | [a, b, c, d], _ => exact ⟨a, b, c, d, rfl⟩
    have := a.toNat_lt; have := b.toNat_lt; have := c.toNat_lt; have := d.toNat_lt
    refine bind_next (s := (((num4 r1.1 : Nat) : Int), 4)) ?_ (by rw [h2, ← h1])
    have s0 := stepR r1 0 0 (by omega) (by omega) (by omega)
    have s1 := stepR r1 a.toNat 1 (by omega) (by omega) (by omega)
    have s2 := stepR r1 (a.toNat * 256 + b.toNat) 2 (by omega) (by omega) (by omega)
    have s3 := stepR r1 ((a.toNat * 256 + b.toNat) * 256 + c.toNat) 3 (by omega) (by omega) (by omega)
    have g0 : r1.1.getD 0 default = a := by rw [hl]; rfl
    have g1 : r1.1.getD 1 default = b := by rw [hl]; rfl
    have g2 : r1.1.getD 2 default = c := by rw [hl]; rfl
    have g3 : r1.1.getD 3 default = d := by rw [hl]; rfl
    rw [g0, Nat.zero_mul, Nat.zero_add] at s0
    rw [g1] at s1
    rw [g2] at s2
    rw [g3] at s3
    have hf : ((r1.1.length : Int) - 0 : Int).toNat + 2 = 6 := by omega
    rw [hf]
    have hn : num4 r1.1 = ((a.toNat * 256 + b.toNat) * 256 + c.toNat) * 256 + d.toNat := by rw [hl]; rfl
    rw [hn]
    refine loop_cont (body := fun s : Int × Int => ref03_Reader_Number.b1 r1 s.1 s.2) 5 s0 (loop_cont 4 s1 (loop_cont 3 s2 (loop_cont 2 s3 (loop_brk 1 ?_))))
    show ref03_Reader_Number.b1 r1 _ _ = _
    unfold ref03_Reader_Number.b1
    rw [if_neg (by simp; omega)]
    rfl
theorem wordRd (s : List UInt8) (e : Int) : wire_Reader_Word ⟨s, e⟩ = some (((num4 (tk 4 s e).1 : Nat) : Int), ⟨(tk 4 s e).2.1, (tk 4 s e).2.2⟩) := by
  unfold wire_Reader_Word
  refine bind_of (numW s e) ?_
  have := num4_lt (tk 4 s e).1
  rw [wu32 (by omega)]
def dg (l : List UInt8) : List UInt8 := if l = [] then List.replicate 32 0 else l
theorem dg_len (s : List UInt8) (e : Int) : (dg (tk 32 s e).1).length = 32 := by
  unfold dg
  rcases tk_len 32 s e with h | h
  · rw [if_pos h]; simp
  · rw [if_neg (by intro q; rw [q] at h; simp at h)]; exact h
theorem digW (s : List UInt8) (e : Int) : wire_Reader_Digest ⟨s, e⟩ = some (dg (tk 32 s e).1, ⟨(tk 32 s e).2.1, (tk 32 s e).2.2⟩) := by
  unfold wire_Reader_Digest
  refine bind_of (tkW 32 s e) ?_
  unfold dg
  rcases tk_len 32 s e with h | h
  · rw [h]; rfl
  · rw [if_neg (by intro q; rw [q] at h; simp at h)]
    show some ((List.replicate 32 0).take 0 ++ (tk 32 s e).1.take (min (tk 32 s e).1.length 32) ++ (List.replicate 32 0).drop (0 + (min (tk 32 s e).1.length 32)), _) = _
    rw [h]
    simp [h, List.take_of_length_le]
theorem digR (s : List UInt8) (e : Int) : ref03_Reader_Digest ⟨s, e⟩ = some (dg (tk 32 s e).1, ⟨(tk 32 s e).2.1, (tk 32 s e).2.2⟩) := by
  unfold ref03_Reader_Digest
  refine bind_of (tkR 32 s e) ?_
  generalize hr : (((tk 32 s e).1, (⟨(tk 32 s e).2.1, (tk 32 s e).2.2⟩ : O_RRdr)) : (List UInt8) × O_RRdr) = r1
  have h1 : r1.1 = (tk 32 s e).1 := by rw [← hr]
  have h2 : r1.2 = ⟨(tk 32 s e).2.1, (tk 32 s e).2.2⟩ := by rw [← hr]
  rw [← h2, ← h1]
  have hL : r1.1 = [] ∨ r1.1.length = 32 := by rw [h1]; exact tk_len 32 s e
  clear h1 h2 hr
  obtain ⟨c, h3, h4⟩ := loop_ok (body := fun s : Int × (List UInt8) => ref03_Reader_Digest.b1 r1 s.1 s.2) (fun s => ∃ i : Nat, i ≤ r1.1.length ∧ s.1 = (i : Int) ∧ s.2.length = 32 ∧ (∀ j, j < i → s.2[j]? = r1.1[j]?) ∧ (r1.1 = [] → s.2 = List.replicate 32 0))
      (fun c => match c with | .next s => s.2 = dg r1.1 | .ret r => False) (fun s => (r1.1.length - s.1).toNat)
      (fun s ⟨i, hi, hs, hl, hj, hz⟩ => by
        obtain ⟨si, sl⟩ := s
        simp only at hs hl hj hz
        subst hs
        by_cases h : i < r1.1.length
        · have hlen : r1.1.length = 32 := by rcases hL with q | q; · rw [q] at h; simp at h
                                             · exact q
          refine .inl ⟨(((i + 1 : Nat) : Int), sl.set i (r1.1[i])), ?_, ⟨i + 1, by omega, rfl, by simp [hl], fun j hj' => ?_, fun q => by rw [q] at h; simp at h⟩, by simp; omega⟩
          · show ref03_Reader_Digest.b1 r1 _ _ = _
            unfold ref03_Reader_Digest.b1
            have e1 : ((i : Nat) : Int).toNat = i := by omega
            have e2 : u8of ((r1.1.getD i 0).toNat : Int) = r1.1[i] := by
              have : r1.1.getD i 0 = r1.1[i] := by simp [List.getD, h]
              rw [this]; simp [u8of]
            rw [if_pos (by simp; omega), if_pos (by omega), if_pos (by omega), w64 (by omega), e1, e2]
            rfl
          · by_cases q : j = i
            · subst q; simp [h, hl, show j < 32 by omega]
            · simp only [List.getElem?_set]
              rw [if_neg (by omega)]
              exact hj j (by omega)
        · have hi' : i = r1.1.length := by omega
          refine .inr (.inl ⟨((i : Int), sl), ?_, ?_⟩)
          · show ref03_Reader_Digest.b1 r1 _ _ = _
            unfold ref03_Reader_Digest.b1
            rw [if_neg (by simp; omega)]
          · show sl = dg r1.1
            unfold dg
            split
            · rename_i q; exact hz q
            · rename_i q
              have hlen : r1.1.length = 32 := hL.resolve_left q
              refine List.ext_getElem? fun j => ?_
              by_cases hlt : j < i
              · exact hj j hlt
              · rw [List.getElem?_eq_none (by omega), List.getElem?_eq_none (by omega)]) (((r1.1.length : Int) - 0 : Int).toNat + 2) (0, List.replicate 32 0) ⟨0, by omega, rfl, by simp, fun j hj => by omega, fun _ => rfl⟩ (by simp)
  cases c with
  | ret r => exact h4.elim
  | next s =>
    have h4 : s.2 = dg r1.1 := h4
    refine bind_next h3 ?_
    rw [← h4]
def fl (k e : Int) : Int := if e = 0 then k else e
theorem flW (k : Int) (s : List UInt8) (e : Int) : wire_Reader_Fail ⟨s, e⟩ k = some ⟨s, fl k e⟩ := by
  unfold wire_Reader_Fail wire_Reader_Fail.j1 fl
  by_cases he : e = 0
  · rw [if_pos (by simp [he]), if_pos he]
  · rw [if_neg (by simp [he]), if_neg he]
theorem flR (k : Int) (s : List UInt8) (e : Int) : ref03_Reader_Fail ⟨s, e⟩ k = some ⟨s, fl k e⟩ := by
  unfold ref03_Reader_Fail ref03_Reader_Fail.j1 fl
  by_cases he : e = 0
  · rw [if_pos (by simp [he]), if_pos he]
  · rw [if_neg (by simp [he]), if_neg he]
def cnt (s : List UInt8) (e : Int) : Nat × List UInt8 × Int := if 32 < num4 (tk 4 s e).1 then (0, (tk 4 s e).2.1, fl 5 (tk 4 s e).2.2) else (num4 (tk 4 s e).1, (tk 4 s e).2.1, (tk 4 s e).2.2)
theorem cnt_le (s : List UInt8) (e : Int) : (cnt s e).1 ≤ 32 := by unfold cnt; split <;> simp <;> omega
theorem cnt_rest (s : List UInt8) (e : Int) : (cnt s e).2.1.length ≤ s.length := by
  have := tk_rest 4 s e
  unfold cnt; split <;> exact this
theorem cntW (s : List UInt8) (e : Int) : wire_Reader_count ⟨s, e⟩ 32 = some (((cnt s e).1 : Int), ⟨(cnt s e).2.1, (cnt s e).2.2⟩) := by
  unfold wire_Reader_count
  refine bind_of (numW s e) ?_
  have hn := num4_lt (tk 4 s e).1
  have e1 : IntKind.wrap .u64 (if (32 : Int) < 0 then 0 else 32) = 32 := by decide
  rw [e1]
  unfold cnt
  by_cases h : 32 < num4 (tk 4 s e).1
  · rw [if_pos (by simp; omega), if_pos h]
    exact bind_of (flW 5 _ _) rfl
  · rw [if_neg (by simp; omega), if_neg h, w64 (by omega)]
theorem cntR (s : List UInt8) (e : Int) : ref03_Reader_many ⟨s, e⟩ 32 = some (((cnt s e).1 : Int), ⟨(cnt s e).2.1, (cnt s e).2.2⟩) := by
  unfold ref03_Reader_many
  refine bind_of (numR s e) ?_
  have hn := num4_lt (tk 4 s e).1
  have e1 : IntKind.wrap .u64 32 = 32 := by decide
  rw [if_neg (by decide), if_pos (by decide), e1]
  unfold ref03_Reader_many.j1 cnt
  by_cases h : 32 < num4 (tk 4 s e).1
  · rw [if_pos (by simp; omega), if_pos h]
    exact bind_of (flR 5 _ _) rfl
  · rw [if_neg (by simp; omega), if_neg h, w64 (by omega)]
def ch : Nat → List UInt8 → List (List UInt8)
  | 0, _ => []
  | n + 1, s => s.take 32 :: ch n (s.drop 32)
theorem ch_len : ∀ (n : Nat) (s : List UInt8), (ch n s).length = n
  | 0, _ => rfl
  | n + 1, s => by simp [ch, ch_len n]
theorem ch_32 : ∀ (n : Nat) (s : List UInt8), 32 * n ≤ s.length → ∀ p ∈ ch n s, p.length = 32
  | 0, _, _, p, h => by simp [ch] at h
  | n + 1, s, hs, p, h => by
    simp only [ch, List.mem_cons] at h
    rcases h with rfl | h
    · simp; omega
    · exact ch_32 n (s.drop 32) (by simp; omega) p h
theorem ch_flat : ∀ (n : Nat) (s : List UInt8), (ch n s).flatten = s.take (32 * n)
  | 0, s => by simp [ch]
  | n + 1, s => by
    simp only [ch, List.flatten_cons, ch_flat n]
    have : 32 * (n + 1) = 32 + 32 * n := by omega
    rw [this, List.take_add]
theorem ch_take : ∀ (n : Nat) (s : List UInt8), ch n (s.take (32 * n)) = ch n s
  | 0, s => rfl
  | n + 1, s => by
    simp only [ch]
    rw [List.take_take, List.drop_take]
    have e1 : min 32 (32 * (n + 1)) = 32 := by omega
    have e2 : 32 * (n + 1) - 32 = 32 * n := by omega
    rw [e1, e2, ch_take n]
def dgs (s : List UInt8) (e : Int) : List (List UInt8) × List UInt8 × Int := (ch ((tk ((cnt s e).1 * 32) (cnt s e).2.1 (cnt s e).2.2).1.length / 32) (tk ((cnt s e).1 * 32) (cnt s e).2.1 (cnt s e).2.2).1, (tk ((cnt s e).1 * 32) (cnt s e).2.1 (cnt s e).2.2).2)
theorem dgs_len (s : List UInt8) (e : Int) : (dgs s e).1.length ≤ 32 := by
  unfold dgs
  rw [ch_len]
  have := cnt_le s e
  rcases tk_len ((cnt s e).1 * 32) (cnt s e).2.1 (cnt s e).2.2 with h | h
  · rw [h]; simp
  · rw [h]; omega
theorem dgs_32 (s : List UInt8) (e : Int) : ∀ p ∈ (dgs s e).1, p.length = 32 := by
  unfold dgs
  refine ch_32 _ _ ?_
  omega
theorem dgs_rest (s : List UInt8) (e : Int) : (dgs s e).2.1.length ≤ s.length := Nat.le_trans (tk_rest _ _ _) (cnt_rest s e)
theorem loopW : ∀ (k f : Nat) (x : List UInt8) (acc : List (List UInt8)), x.length = 32 * k → k < f → acc.length + k < 1000 →
    loopN (fun s : (List UInt8) × (List (List UInt8)) => wire_Reader_Digests.b1 s.1 s.2) f (x, acc) = some (.next ([], acc ++ ch k x))
  | 0, f + 1, x, acc, hx, hf, ha => by
    have : x = [] := List.length_eq_zero_iff.1 (by omega)
    subst this
    refine (loop_brk f (s' := ([], acc)) ?_).trans (by simp [ch])
    show wire_Reader_Digests.b1 [] acc = _
    unfold wire_Reader_Digests.b1
    rw [if_neg (by simp)]
  | k + 1, f + 1, x, acc, hx, hf, ha => by
    have hne : x ≠ [] := by intro q; rw [q] at hx; simp at hx
    have hp : (List.replicate 32 0).take (0 : Int).toNat ++ x.take (min x.length ((32 : Int).toNat - (0 : Int).toNat)) ++ (List.replicate 32 0).drop ((0 : Int).toNat + (min x.length ((32 : Int).toNat - (0 : Int).toNat))) = x.take 32 := by
      show (List.replicate 32 0).take 0 ++ x.take (min x.length 32) ++ (List.replicate 32 0).drop (0 + (min x.length 32)) = x.take 32
      have : min x.length 32 = 32 := by omega
      rw [this]
      simp
    have hd : (x.take (x.length : Int).toNat).drop (32 : Int).toNat = x.drop 32 := by
      show (x.take (x.length : Int).toNat).drop 32 = x.drop 32
      simp
    refine loop_cont f (s' := (x.drop 32, acc ++ [x.take 32])) ?_ ?_
    · show wire_Reader_Digests.b1 x acc = _
      unfold wire_Reader_Digests.b1
      rw [if_pos (by simp [hne])]
      rw [hp]
      rw [if_pos (by simp [mxl]; omega), if_pos (by omega)]
      exact congrArg (fun q => some (Flow.cont (q, acc ++ [x.take 32]))) hd
    · rw [loopW k f (x.drop 32) (acc ++ [x.take 32]) (by simp; omega) (by omega) (by simp; omega)]
      simp [ch]
theorem dgsW (s : List UInt8) (e : Int) : wire_Reader_Digests ⟨s, e⟩ 32 = some ((dgs s e).1, ⟨(dgs s e).2.1, (dgs s e).2.2⟩) := by
  have hc := cnt_le s e
  unfold wire_Reader_Digests
  refine bind_of (cntW s e) ?_
  have e1 : IntKind.wrap .i64 (((cnt s e).1 : Int) * 32) = (((cnt s e).1 * 32 : Nat) : Int) := by rw [w64 (by omega)]; norm_cast
  rw [e1]
  refine bind_of (tkW _ _ _) ?_
  have hl := tk_len ((cnt s e).1 * 32) (cnt s e).2.1 (cnt s e).2.2
  refine bind_next (loopW ((tk ((cnt s e).1 * 32) (cnt s e).2.1 (cnt s e).2.2).1.length / 32) 100000 _ [] ?_ ?_ ?_) ?_
  · rcases hl with h | h
    · rw [h]; rfl
    · rw [h]; omega
  · rcases hl with h | h
    · rw [h]; decide
    · rw [h]; omega
  · rcases hl with h | h
    · rw [h]; decide
    · rw [h]; simp; omega
  · rfl
theorem loopR (n : Nat) (r : O_RRdr) (hn : n ≤ 32) : ∀ (k f i : Nat) (x : List UInt8) (acc : List (List UInt8)), 32 * k ≤ x.length → i + k = n → k < f → acc.length + k < 1000 →
    loopN (fun s : Int × O_RRdr × (List (List UInt8)) => ref03_Reader_Digests.b1 ((n : Int), r) s.1 s.2.1 s.2.2) f ((i : Int), ⟨x, 0⟩, acc) = some (.next ((n : Int), ⟨x.drop (32 * k), 0⟩, acc ++ ch k x))
  | 0, f + 1, i, x, acc, hx, hi, hf, ha => by
    have : i = n := by omega
    subst this
    refine (loop_brk f (s' := ((i : Int), ⟨x, 0⟩, acc)) ?_).trans (by simp [ch])
    show ref03_Reader_Digests.b1 _ _ _ _ = _
    unfold ref03_Reader_Digests.b1 ref03_Reader_Digests.j3
    rw [if_neg (by simp), if_neg (by simp)]
  | k + 1, f + 1, i, x, acc, hx, hi, hf, ha => by
    have ht : tk 32 x 0 = (x.take 32, x.drop 32, 0) := by unfold tk; rw [if_pos rfl, if_neg (by omega)]
    have hg : dg (x.take 32) = x.take 32 := by
      unfold dg
      rw [if_neg]
      intro q
      have h0 : (x.take 32).length = 0 := by rw [q]; rfl
      rw [List.length_take] at h0
      omega
    refine loop_cont f (s' := (((i + 1 : Nat) : Int), ⟨x.drop 32, 0⟩, acc ++ [x.take 32])) ?_ ?_
    · show ref03_Reader_Digests.b1 _ (i : Int) ⟨x, 0⟩ acc = _
      unfold ref03_Reader_Digests.b1 ref03_Reader_Digests.j3
      rw [if_pos (by show decide ((i : Int) < (n : Int)) = true; simp; omega), if_pos (by simp)]
      have hD := digR x 0
      rw [ht, hg] at hD
      refine bind_of hD ?_
      rw [if_pos (by simp [mxl]; omega), w64 (by omega)]
      rfl
    · rw [loopR n r hn k f (i + 1) (x.drop 32) (acc ++ [x.take 32]) (by simp; omega) (by omega) (by omega) (by simp; omega)]
      have : 32 * (k + 1) = 32 + 32 * k := by omega
      simp [ch, this]
theorem stopR (n : Nat) (r rd : O_RRdr) (acc : List (List UInt8)) (h : rd.f_Bad ≠ 0) : loopN (fun s : Int × O_RRdr × (List (List UInt8)) => ref03_Reader_Digests.b1 ((n : Int), r) s.1 s.2.1 s.2.2) 100000 (0, rd, acc) = some (.next (0, rd, acc)) := by
  refine loop_brk 99999 ?_
  show ref03_Reader_Digests.b1 _ _ _ _ = _
  unfold ref03_Reader_Digests.b1 ref03_Reader_Digests.j3
  by_cases hn : (0 : Int) < n
  · rw [if_pos (by simpa using hn), if_neg (by simp [h])]
  · rw [if_neg (by simpa using hn), if_neg (by simp)]
theorem dgsR (s : List UInt8) (e : Int) (hs : s.length < 1000000) : ref03_Reader_Digests ⟨s, e⟩ 32 = some ((dgs s e).1, ⟨(dgs s e).2.1, (dgs s e).2.2⟩) := by
  have hc := cnt_le s e
  have hr := cnt_rest s e
  unfold ref03_Reader_Digests
  refine bind_of (cntR s e) ?_
  unfold dgs
  generalize hx : cnt s e = x at hc hr
  obtain ⟨n, t, b⟩ := x
  simp only at hc hr ⊢
  unfold ref03_Reader_Digests.j1 ref03_Reader_Digests.j2
  by_cases hb : b = 0
  · subst hb
    rw [if_pos (by simp)]
    have e1 : IntKind.wrap .i64 ((t.length : Int).tdiv 32) = ((t.length / 32 : Nat) : Int) := by
      rw [Int.tdiv_eq_ediv_of_nonneg (by omega), w64 (by omega)]; simp
    rw [e1]
    unfold tk
    rw [if_pos rfl]
    by_cases h : t.length < n * 32
    · rw [if_pos (by simp; omega), if_pos h]
      refine bind_next (stopR n _ _ _ (by simp)) ?_
      show some (([] : List (List UInt8)), (⟨t, 3⟩ : O_RRdr)) = some (ch (([] : List UInt8).length / 32) [], ⟨t, 3⟩)
      rw [show ([] : List UInt8).length / 32 = 0 from rfl]
      rfl
    · rw [if_neg (by simp; omega), if_neg h]
      refine bind_next (loopR n _ hc n 100000 0 t [] (by omega) (by omega) (by omega) (by simp; omega)) ?_
      have e2 : (t.take (n * 32)).length / 32 = n := by simp; omega
      simp only [List.nil_append]
      rw [e2, Nat.mul_comm n 32, ch_take]
  · rw [if_neg (by simp [hb]), if_neg (by simp)]
    unfold tk
    rw [if_neg hb]
    refine bind_next (stopR n _ _ _ hb) ?_
    show some (([] : List (List UInt8)), (⟨t, b⟩ : O_RRdr)) = some (ch (([] : List UInt8).length / 32) [], ⟨t, b⟩)
    rw [show ([] : List UInt8).length / 32 = 0 from rfl]
    rfl
/-- A signature that is read. -/
def sg1 (s : List UInt8) (e : Int) : List UInt8 × Int := ((tk 4 s e).2.1, if 2147483647 < num4 (tk 4 s e).1 then fl 8 (tk 4 s e).2.2 else (tk 4 s e).2.2)
def sgD (s : List UInt8) (e : Int) : (List (List UInt8) × List (List UInt8) × List (List UInt8)) × List UInt8 × Int :=
  let d1 := dgs s e
  let d2 := dgs d1.2.1 d1.2.2
  let d3 := dgs d2.2.1 d2.2.2
  ((d1.1, d2.1, d3.1), d3.2)
theorem sgD_rest (s : List UInt8) (e : Int) : (sgD s e).2.1.length ≤ s.length := Nat.le_trans (dgs_rest _ _) (Nat.le_trans (dgs_rest _ _) (dgs_rest _ _))
def sgQ (s : List UInt8) (e : Int) : S_api_Sig × List UInt8 × Int :=
  let d := sgD (sg1 s e).1 (sg1 s e).2
  (if d.2.2 = 0 then ⟨IntKind.wrap .i64 (num4 (tk 4 s e).1 : Nat), d.1.1, d.1.2.1, d.1.2.2⟩ else ⟨0, [], [], []⟩, d.2)
theorem sgQ_len (s : List UInt8) (e : Int) : (sgQ s e).1.f_Parts.length ≤ 32 ∧ (sgQ s e).1.f_Others.length ≤ 32 ∧ (sgQ s e).1.f_Path.length ≤ 32 := by
  unfold sgQ
  simp only
  split
  · exact ⟨dgs_len _ _, dgs_len _ _, dgs_len _ _⟩
  · exact ⟨by simp, by simp, by simp⟩
theorem sgW (s : List UInt8) (e : Int) : wire_Reader_Sig ⟨s, e⟩ = some ((sgQ s e).1, ⟨(sgQ s e).2.1, (sgQ s e).2.2⟩) := by
  have key : wire_Reader_Sig.j1 (((num4 (tk 4 s e).1 : Nat) : Int), ⟨(tk 4 s e).2.1, (tk 4 s e).2.2⟩) ⟨(sg1 s e).1, (sg1 s e).2⟩ = some ((sgQ s e).1, ⟨(sgQ s e).2.1, (sgQ s e).2.2⟩) := by
    unfold wire_Reader_Sig.j1
    refine bind_of (dgsW _ _) (bind_of (dgsW _ _) (bind_of (dgsW _ _) ?_))
    unfold sgQ sgD
    simp only
    generalize dgs (sg1 s e).1 (sg1 s e).2 = d1
    generalize dgs d1.2.1 d1.2.2 = d2
    generalize dgs d2.2.1 d2.2.2 = d3
    by_cases h : d3.2.2 = 0
    · rw [if_neg (by simp [h]), if_pos h]
    · rw [if_pos (by simp [h]), if_neg h]
  unfold wire_Reader_Sig
  refine bind_of (wordRd s e) ?_
  rw [← key]
  unfold sg1
  by_cases h : 2147483647 < num4 (tk 4 s e).1
  · rw [if_pos (by simp; omega), if_pos h]
    exact bind_of (flW 8 _ _) rfl
  · rw [if_neg (by simp; omega), if_neg h]
theorem sgR (s : List UInt8) (e : Int) (hs : s.length < 1000000) : ref03_Reader_Sig ⟨s, e⟩ = some ((sgQ s e).1, ⟨(sgQ s e).2.1, (sgQ s e).2.2⟩) := by
  have key : ref03_Reader_Sig.j1 (((num4 (tk 4 s e).1 : Nat) : Int), ⟨(tk 4 s e).2.1, (tk 4 s e).2.2⟩) ⟨(sg1 s e).1, (sg1 s e).2⟩ = some ((sgQ s e).1, ⟨(sgQ s e).2.1, (sgQ s e).2.2⟩) := by
    have r0 : (sg1 s e).1.length ≤ s.length := tk_rest 4 s e
    have r1 := dgs_rest (sg1 s e).1 (sg1 s e).2
    have r2 := dgs_rest (dgs (sg1 s e).1 (sg1 s e).2).2.1 (dgs (sg1 s e).1 (sg1 s e).2).2.2
    unfold ref03_Reader_Sig.j1
    refine bind_of (dgsR _ _ (by omega)) (bind_of (dgsR _ _ (by omega)) (bind_of (dgsR _ _ (by omega)) ?_))
    unfold sgQ sgD
    simp only
    generalize dgs (sg1 s e).1 (sg1 s e).2 = d1
    generalize dgs d1.2.1 d1.2.2 = d2
    generalize dgs d2.2.1 d2.2.2 = d3
    by_cases h : d3.2.2 = 0
    · rw [if_neg (by simp [h]), if_pos h]
    · rw [if_pos (by simp [h]), if_neg h]
  unfold ref03_Reader_Sig
  refine bind_of (numR s e) ?_
  rw [← key]
  unfold sg1
  by_cases h : 2147483647 < num4 (tk 4 s e).1
  · rw [if_pos (by simp; omega), if_pos h]
    exact bind_of (flR 8 _ _) rfl
  · rw [if_neg (by simp; omega), if_neg h]
def en (s : List UInt8) (e : Int) : Int := if e = 0 then (if s = [] then 0 else 4) else e
theorem enW (s : List UInt8) (e : Int) : wire_Reader_End ⟨s, e⟩ = some (en s e, ⟨s, e⟩) := by
  unfold wire_Reader_End wire_Reader_End.j1 en
  by_cases he : e = 0
  · rw [if_pos (by simp [he]), if_pos he]
    by_cases h : s = []
    · rw [if_neg (by simp [h]), if_pos h, he]
    · rw [if_pos (by simp [h]), if_neg h]
  · rw [if_neg (by simp [he]), if_neg he, if_neg (by simp)]
theorem enR (s : List UInt8) (e : Int) : ref03_Reader_End ⟨s, e⟩ = some (en s e, ⟨s, e⟩) := by
  unfold ref03_Reader_End ref03_Reader_End.j1 en
  by_cases he : e = 0
  · rw [if_pos (by simp [he]), if_pos he]
    by_cases h : s = []
    · rw [if_neg (by simp [h]), if_pos h, he]
    · rw [if_pos (by simp; exact List.length_pos_iff.2 h), if_neg h]
  · rw [if_neg (by simp [he]), if_neg he, if_neg (by simp)]
end

section
set_option linter.unusedVariables false

theorem wordB {x : Int} (h : 0 ≤ x ∧ x < 4294967296) : wire_Word x = some (wrd x) := by
  unfold wire_Word wrd
  rw [wu64 (by omega), wu32 h, big4]
  rfl
theorem flat32 : ∀ (l : List (List UInt8)), (∀ p ∈ l, p.length = 32) → l.flatten.length = 32 * l.length
  | [], _ => rfl
  | p :: l, h => by
    have h1 := h p (by simp)
    have h2 := flat32 l (fun q hq => h q (by simp [hq]))
    simp [h1, h2]
    omega
def dsB (l : List (List UInt8)) : List UInt8 := wrd (l.length : Int) ++ l.flatten
theorem wrd_len (i : Int) : (wrd i).length = 4 := by simp [wrd, hd4]
theorem dsB_len {l : List (List UInt8)} (h : ∀ p ∈ l, p.length = 32) : (dsB l).length = 4 + 32 * l.length := by
  simp only [dsB, List.length_append, wrd_len, flat32 l h]
theorem at32 {l : List (List UInt8)} (h : ∀ p ∈ l, p.length = 32) (i : Nat) (hi : i < l.length) : l.getD (i : Int).toNat default = l[i] ∧ l[i].length = 32 := ⟨by simp [List.getD, hi], h _ (List.getElem_mem hi)⟩
theorem take_flat (l : List (List UInt8)) (i : Nat) (hi : i < l.length) : (l.take (i + 1)).flatten = (l.take i).flatten ++ l[i] := by
  rw [List.take_succ_eq_append_getElem hi, List.flatten_append]
  simp only [List.flatten_cons, List.flatten_nil, List.append_nil]
theorem take32 {l : List (List UInt8)} (h : ∀ p ∈ l, p.length = 32) (i : Nat) : ∀ p ∈ l.take i, p.length = 32 := fun p hp => h p (List.mem_of_mem_take hp)
theorem dsW {l : List (List UInt8)} (hl : l.length ≤ 60) (h : ∀ p ∈ l, p.length = 32) : wire_Digests l = some (dsB l) := by
  unfold wire_Digests
  rw [wu32 (by omega)]
  refine bind_of (wordB (by omega)) ?_
  refine bind_of (x := ((4 : Int), Value.nilIface, (⟨[] ++ wrd (l.length : Int)⟩ : O_Bld))) ?_ ?_
  · unfold strings_Builder_WriteString
    rw [if_pos (by simp [wrd_len, mxl])]
    simp [wrd_len]
  · obtain ⟨c, h3, h4⟩ := loop_ok (body := fun s : Int × O_Bld => wire_Digests.b1 l s.1 s.2) (fun s => ∃ i : Nat, i ≤ l.length ∧ s = ((i : Int), ⟨wrd (l.length : Int) ++ (l.take i).flatten⟩))
      (fun c => match c with | .next s => s.2 = ⟨dsB l⟩ | .ret r => False) (fun s => (l.length - s.1).toNat)
      (fun s ⟨i, hi, hs⟩ => by
        subst hs
        by_cases q : i < l.length
        · obtain ⟨e1, e2⟩ := at32 h i q
          refine .inl ⟨(((i + 1 : Nat) : Int), ⟨wrd (l.length : Int) ++ (l.take (i + 1)).flatten⟩), ?_, ⟨i + 1, by omega, rfl⟩, by simp; omega⟩
          show wire_Digests.b1 l (i : Int) ⟨_⟩ = _
          unfold wire_Digests.b1
          rw [if_pos (by simp; omega), if_pos (by omega), e1, w64 (by omega)]
          have e3 : (l[i].take (32 : Int).toNat).drop (0 : Int).toNat = l[i] := by
            show (l[i].take 32).drop 0 = l[i]
            rw [List.take_of_length_le (by omega)]; rfl
          rw [e3]
          have e4 := flat32 _ (take32 h i)
          have e5 : (l.take i).length ≤ 60 := by simp; omega
          refine bind_of (x := ((l[i].length : Int), Value.nilIface, (⟨(wrd (l.length : Int) ++ (l.take i).flatten) ++ l[i]⟩ : O_Bld))) ?_ ?_
          · unfold strings_Builder_Write
            rw [if_pos (by simp only [List.length_append, wrd_len, e4, e2, mxl]; omega)]
          · rw [take_flat l i q, List.append_assoc]
            rfl
        · have : i = l.length := by omega
          subst this
          refine .inr (.inl ⟨((l.length : Int), ⟨dsB l⟩), ?_, rfl⟩)
          show wire_Digests.b1 l (l.length : Int) ⟨_⟩ = _
          unfold wire_Digests.b1
          rw [if_neg (by simp), List.take_length]
          rfl) (((l.length : Int) - 0 : Int).toNat + 2) (0, ⟨[] ++ wrd (l.length : Int)⟩) ⟨0, by omega, by simp⟩ (by simp)
    cases c with
    | ret r => exact h4.elim
    | next s =>
      have h4 : s.2 = ⟨dsB l⟩ := h4
      refine bind_next h3 ?_
      show (strings_Builder_String s.2).bind _ = _
      rw [h4]
      refine bind_of (x := dsB l) ?_ rfl
      unfold strings_Builder_String
      rw [if_pos]
      intro q
      have := dsB_len h
      rw [show dsB l = [] from q, List.length_nil] at this
      omega
theorem dsR {l : List (List UInt8)} (hl : l.length ≤ 60) (h : ∀ p ∈ l, p.length = 32) : ref03_Digests l = some (dsB l) := by
  unfold ref03_Digests
  refine bind_of (rword_eq _) ?_
  obtain ⟨c, h3, h4⟩ := loop_ok (body := fun s : (List UInt8) × Int => ref03_Digests.b1 l s.1 s.2) (fun s => ∃ i : Nat, i ≤ l.length ∧ s = (wrd (l.length : Int) ++ (l.take i).flatten, (i : Int)))
      (fun c => match c with | .next s => s.1 = dsB l | .ret r => False) (fun s => (l.length - s.2).toNat)
      (fun s ⟨i, hi, hs⟩ => by
        subst hs
        by_cases q : i < l.length
        · obtain ⟨e1, e2⟩ := at32 h i q
          refine .inl ⟨(wrd (l.length : Int) ++ (l.take (i + 1)).flatten, ((i + 1 : Nat) : Int)), ?_, ⟨i + 1, by omega, rfl⟩, by simp; omega⟩
          show ref03_Digests.b1 l _ (i : Int) = _
          unfold ref03_Digests.b1
          rw [if_pos (by simp; omega), if_pos (by omega), e1, w64 (by omega)]
          have e4 := flat32 _ (take32 h i)
          have e5 : (l.take i).length ≤ 60 := by simp; omega
          have e3 : ref03_Bytes l[i] = some l[i] := by
            unfold ref03_Bytes
            show some (l[i].take 32) = _
            rw [List.take_of_length_le (by omega)]
          refine bind_of e3 ?_
          rw [if_pos (by simp only [List.length_append, wrd_len, e4, e2, mxl]; omega), take_flat l i q, List.append_assoc]
          rfl
        · have : i = l.length := by omega
          subst this
          refine .inr (.inl ⟨(dsB l, (l.length : Int)), ?_, rfl⟩)
          show ref03_Digests.b1 l _ (l.length : Int) = _
          unfold ref03_Digests.b1
          rw [if_neg (by simp), List.take_length]
          rfl) (((l.length : Int) - 0 : Int).toNat + 2) (wrd (l.length : Int), 0) ⟨0, by omega, by simp⟩ (by simp)
  cases c with
  | ret r => exact h4.elim
  | next s =>
    have h4 : s.1 = dsB l := h4
    refine bind_next h3 ?_
    rw [← h4]
theorem inrU {x : Int} (h : InR .u32 x) : 0 ≤ x ∧ x < 4294967296 := by
  have h1 := h.1
  have h2 := h.2
  simp [IntKind.min, IntKind.max, IntKind.bits, IntKind.signed] at h1 h2
  omega
def Sig60 (s : S_api_Sig) : Prop := s.f_Parts.length ≤ 60 ∧ s.f_Others.length ≤ 60 ∧ s.f_Path.length ≤ 60 ∧ (∀ p ∈ s.f_Parts, p.length = 32) ∧ (∀ p ∈ s.f_Others, p.length = 32) ∧ ∀ p ∈ s.f_Path, p.length = 32
def sgB (s : S_api_Sig) : List UInt8 := wrd s.f_Index ++ dsB s.f_Parts ++ dsB s.f_Others ++ dsB s.f_Path
theorem sgB_len {s : S_api_Sig} (h : Sig60 s) : (sgB s).length ≤ 10000 := by
  obtain ⟨a, b, c, d, e, f⟩ := h
  simp only [sgB, List.length_append, wrd_len, dsB_len d, dsB_len e, dsB_len f]
  omega
theorem wrd_wrap (i : Int) : wrd (IntKind.wrap .u32 i) = wrd i := by
  obtain ⟨m, k1, k2, k3⟩ := wrap32 i
  unfold wrd
  rw [k1, wu32 (by omega)]
theorem sgBW {s : S_api_Sig} (h : Sig60 s) : wire_Sig s = some (sgB s) := by
  have hh := h
  obtain ⟨a, b, c, d, e, f⟩ := h
  obtain ⟨m, k1, k2, k3⟩ := wrap32 s.f_Index
  unfold wire_Sig
  refine bind_of (x := wrd s.f_Index) ?_ (bind_of (dsW a d) ?_)
  · rw [← wrd_wrap, k1]; exact wordB (by omega)
  · rw [if_pos (by simp only [wrd_len, dsB_len d, mxl]; omega)]
    refine bind_of (dsW b e) ?_
    rw [if_pos (by simp only [List.length_append, wrd_len, dsB_len d, dsB_len e, mxl]; omega)]
    refine bind_of (dsW c f) ?_
    rw [if_pos (by simp only [List.length_append, wrd_len, dsB_len d, dsB_len e, dsB_len f, mxl]; omega)]
    rfl
theorem sgBR {s : S_api_Sig} (h : Sig60 s) : ref03_Sig s = some (sgB s) := by
  obtain ⟨a, b, c, d, e, f⟩ := h
  unfold ref03_Sig
  refine bind_of (x := wrd s.f_Index) ?_ (bind_of (dsR a d) ?_)
  · obtain ⟨n, h1, h2, h3⟩ := wrap64 s.f_Index
    obtain ⟨m, k1, k2, k3⟩ := wrap32 s.f_Index
    have e1 : (IntKind.wrap .u64 s.f_Index).tmod 4294967296 = ((n % 4294967296 : Nat) : Int) := by rw [h1, Int.tmod_eq_emod_of_nonneg (by omega)]; simp
    rw [e1, ref_big4 _ (by omega)]
    unfold wrd
    rw [k1]
    have : m = n % 4294967296 := by omega
    rw [this]
  · rw [if_pos (by simp only [wrd_len, dsB_len d, mxl]; omega)]
    refine bind_of (dsR b e) ?_
    rw [if_pos (by simp only [List.length_append, wrd_len, dsB_len d, dsB_len e, mxl]; omega)]
    refine bind_of (dsR c f) ?_
    rw [if_pos (by simp only [List.length_append, wrd_len, dsB_len d, dsB_len e, dsB_len f, mxl]; omega)]
    rfl
theorem by32 {x : List UInt8} (h : x.length = 32) : ref03_Bytes x = some x := by
  unfold ref03_Bytes
  show some (x.take 32) = _
  rw [List.take_of_length_le (by omega)]
def Upd60 (u : S_api_Update) : Prop := (0 ≤ u.f_Home ∧ u.f_Home < 4294967296) ∧ u.f_Old.length = 32 ∧ u.f_New.length = 32 ∧ Sig60 u.f_Sig
def upB (u : S_api_Update) : List UInt8 := wrd u.f_Home ++ u.f_Old ++ u.f_New ++ sgB u.f_Sig
theorem upBW {u : S_api_Update} (h : Upd60 u) : update_Bytes u = some (upB u) := by
  obtain ⟨a, b, c, d⟩ := h
  have l := sgB_len d
  unfold update_Bytes
  refine bind_of (wordB a) (bind_of (dig_eq b) ?_)
  rw [if_pos (by simp only [wrd_len, mxl]; omega)]
  refine bind_of (dig_eq c) ?_
  rw [if_pos (by simp only [List.length_append, wrd_len, mxl]; omega)]
  refine bind_of (sgBW d) ?_
  rw [if_pos (by simp only [List.length_append, wrd_len, mxl]; omega)]
  rfl
theorem upBR {u : S_api_Update} (h : Upd60 u) : ref10_Bytes u = some (upB u) := by
  obtain ⟨a, b, c, d⟩ := h
  have l := sgB_len d
  unfold ref10_Bytes
  refine bind_of (rword_eq _) (bind_of (by32 b) ?_)
  rw [if_pos (by simp only [wrd_len, mxl]; omega)]
  refine bind_of (by32 c) ?_
  rw [if_pos (by simp only [List.length_append, wrd_len, mxl]; omega)]
  refine bind_of (sgBR d) ?_
  rw [if_pos (by simp only [List.length_append, wrd_len, mxl]; omega)]
  rfl
def Stp60 (u : S_api_Stop) : Prop := (0 ≤ u.f_Home ∧ u.f_Home < 4294967296) ∧ u.f_Key.length = 32 ∧ Sig60 u.f_Sig
def stB (u : S_api_Stop) : List UInt8 := wrd u.f_Home ++ u.f_Key ++ wrd u.f_Watcher ++ sgB u.f_Sig
theorem stBW {u : S_api_Stop} (h : Stp60 u) : update_StopBytes u = some (stB u) := by
  obtain ⟨a, b, d⟩ := h
  have l := sgB_len d
  unfold update_StopBytes
  refine bind_of (wordB a) (bind_of (dig_eq b) ?_)
  rw [if_pos (by simp only [wrd_len, mxl]; omega)]
  obtain ⟨m, k1, k2, k3⟩ := wrap32 u.f_Watcher
  refine bind_of (x := wrd u.f_Watcher) (by rw [← wrd_wrap, k1]; exact wordB (by omega)) ?_
  rw [if_pos (by simp only [List.length_append, wrd_len, mxl]; omega)]
  refine bind_of (sgBW d) ?_
  rw [if_pos (by simp only [List.length_append, wrd_len, mxl]; omega)]
  rfl
theorem stBR {u : S_api_Stop} (h : Stp60 u) : ref10_StopBytes u = some (stB u) := by
  obtain ⟨a, b, d⟩ := h
  have l := sgB_len d
  unfold ref10_StopBytes
  refine bind_of (rword_eq _) (bind_of (by32 b) ?_)
  rw [if_pos (by simp only [wrd_len, mxl]; omega)]
  refine bind_of (rword_eq _) ?_
  rw [if_pos (by simp only [List.length_append, wrd_len, mxl]; omega)]
  refine bind_of (sgBR d) ?_
  rw [if_pos (by simp only [List.length_append, wrd_len, mxl]; omega)]
  rfl
end

section
set_option linter.unusedVariables false

def zSig : S_api_Sig := S_api_Sig.mk (0 : Int) [] [] []
def zUp : S_api_Update := S_api_Update.mk (0 : Int) (List.replicate 32 0) (List.replicate 32 0) zSig
def zSt : S_api_Stop := S_api_Stop.mk (0 : Int) (List.replicate 32 0) (0 : Int) zSig
/-- The update that bytes are: behind each part what is left, and what was wrong. -/
def rdU (s : List UInt8) : S_api_Update × Int :=
  let a := (tk 4 s 0).2
  let b := (tk 32 a.1 a.2).2
  let c := (tk 32 b.1 b.2).2
  let d := sgQ c.1 c.2
  let e := en d.2.1 d.2.2
  if e = 0 then (⟨(num4 (tk 4 s 0).1 : Nat), dg (tk 32 a.1 a.2).1, dg (tk 32 b.1 b.2).1, d.1⟩, 0) else (zUp, e)
theorem rdUW (s : List UInt8) : update_Read s = some (rdU s) := by
  unfold update_Read
  refine bind_of (x := (⟨s, 0⟩ : O_Rdr)) rfl (bind_of (wordRd s 0) (bind_of (digW _ _) (bind_of (digW _ _) (bind_of (sgW _ _) (bind_of (enW _ _) ?_)))))
  unfold rdU
  simp only
  generalize en _ _ = e
  by_cases h : e = 0
  · rw [if_neg (by simp [h]), if_pos h]
  · rw [if_pos (by simp [h]), if_neg h]; rfl
theorem rdUR (s : List UInt8) (hs : s.length < 1000000) : ref10_Read s = some (rdU s) := by
  have r1 := tk_rest 4 s 0
  have r2 := tk_rest 32 (tk 4 s 0).2.1 (tk 4 s 0).2.2
  have r3 := tk_rest 32 (tk 32 (tk 4 s 0).2.1 (tk 4 s 0).2.2).2.1 (tk 32 (tk 4 s 0).2.1 (tk 4 s 0).2.2).2.2
  have hn := num4_lt (tk 4 s 0).1
  unfold ref10_Read
  refine bind_of (numR s 0) (bind_of (digR _ _) (bind_of (digR _ _) (bind_of (sgR _ _ (by omega)) (bind_of (enR _ _) ?_))))
  unfold rdU
  simp only
  rw [wu32 (by omega)]
  generalize en _ _ = e
  by_cases h : e = 0
  · rw [if_neg (by simp [h]), if_pos h]
  · rw [if_pos (by simp [h]), if_neg h]; rfl
theorem rdU_len (s : List UInt8) : (rdU s).1.f_Sig.f_Parts.length < 1000000 ∧ (rdU s).1.f_Sig.f_Others.length < 1000000 ∧ (rdU s).1.f_Sig.f_Path.length < 1000000 := by
  unfold rdU
  simp only
  split
  · obtain ⟨a, b, c⟩ := sgQ_len (tk 32 (tk 32 (tk 4 s 0).2.1 (tk 4 s 0).2.2).2.1 (tk 32 (tk 4 s 0).2.1 (tk 4 s 0).2.2).2.2).2.1 (tk 32 (tk 32 (tk 4 s 0).2.1 (tk 4 s 0).2.2).2.1 (tk 32 (tk 4 s 0).2.1 (tk 4 s 0).2.2).2.2).2.2
    exact ⟨Nat.lt_of_le_of_lt a (by decide), Nat.lt_of_le_of_lt b (by decide), Nat.lt_of_le_of_lt c (by decide)⟩
  · exact ⟨by simp [zUp, zSig], by simp [zUp, zSig], by simp [zUp, zSig]⟩
def rdS (s : List UInt8) : S_api_Stop × Int :=
  let a := (tk 4 s 0).2
  let b := (tk 32 a.1 a.2).2
  let c := (tk 4 b.1 b.2).2
  let d := sgQ c.1 c.2
  let e := en d.2.1 d.2.2
  if e = 0 then (if 2147483647 < num4 (tk 4 b.1 b.2).1 then (zSt, 8) else (⟨(num4 (tk 4 s 0).1 : Nat), dg (tk 32 a.1 a.2).1, (num4 (tk 4 b.1 b.2).1 : Nat), d.1⟩, 0)) else (zSt, e)
theorem rdSW (s : List UInt8) : update_ReadStop s = some (rdS s) := by
  have hn := num4_lt (tk 4 (tk 32 (tk 4 s 0).2.1 (tk 4 s 0).2.2).2.1 (tk 32 (tk 4 s 0).2.1 (tk 4 s 0).2.2).2.2).1
  unfold update_ReadStop
  refine bind_of (x := (⟨s, 0⟩ : O_Rdr)) rfl (bind_of (wordRd s 0) (bind_of (digW _ _) (bind_of (wordRd _ _) (bind_of (sgW _ _) (bind_of (enW _ _) ?_)))))
  unfold rdS
  simp only
  rw [w64 (by omega)]
  generalize en _ _ = e
  by_cases h : e = 0
  · rw [if_neg (by simp [h]), if_pos h]
    by_cases h2 : 2147483647 < num4 (tk 4 (tk 32 (tk 4 s 0).2.1 (tk 4 s 0).2.2).2.1 (tk 32 (tk 4 s 0).2.1 (tk 4 s 0).2.2).2.2).1
    · rw [if_pos (by simp; omega), if_pos h2]; rfl
    · rw [if_neg (by simp; omega), if_neg h2]
  · rw [if_pos (by simp [h]), if_neg h]; rfl
theorem rdSR (s : List UInt8) (hs : s.length < 1000000) : ref10_ReadStop s = some (rdS s) := by
  have r1 := tk_rest 4 s 0
  have r2 := tk_rest 32 (tk 4 s 0).2.1 (tk 4 s 0).2.2
  have r3 := tk_rest 4 (tk 32 (tk 4 s 0).2.1 (tk 4 s 0).2.2).2.1 (tk 32 (tk 4 s 0).2.1 (tk 4 s 0).2.2).2.2
  have h0 := num4_lt (tk 4 s 0).1
  have hn := num4_lt (tk 4 (tk 32 (tk 4 s 0).2.1 (tk 4 s 0).2.2).2.1 (tk 32 (tk 4 s 0).2.1 (tk 4 s 0).2.2).2.2).1
  unfold ref10_ReadStop
  refine bind_of (numR s 0) (bind_of (digR _ _) (bind_of (numR _ _) (bind_of (sgR _ _ (by omega)) (bind_of (enR _ _) ?_))))
  unfold rdS
  simp only
  rw [w64 (by omega), wu32 (by omega)]
  generalize en _ _ = e
  by_cases h : e = 0
  · rw [if_neg (by simp [h]), if_pos h]
    by_cases h2 : 2147483647 < num4 (tk 4 (tk 32 (tk 4 s 0).2.1 (tk 4 s 0).2.2).2.1 (tk 32 (tk 4 s 0).2.1 (tk 4 s 0).2.2).2.2).1
    · rw [if_pos (by simp; omega), if_pos h2]; rfl
    · rw [if_neg (by simp; omega), if_neg h2]
  · rw [if_pos (by simp [h]), if_neg h]; rfl
theorem rdS_len (s : List UInt8) : (rdS s).1.f_Sig.f_Parts.length < 1000000 ∧ (rdS s).1.f_Sig.f_Others.length < 1000000 ∧ (rdS s).1.f_Sig.f_Path.length < 1000000 := by
  unfold rdS
  simp only
  split
  · split
    · exact ⟨by simp [zSt, zSig], by simp [zSt, zSig], by simp [zSt, zSig]⟩
    · obtain ⟨a, b, c⟩ := sgQ_len (tk 4 (tk 32 (tk 4 s 0).2.1 (tk 4 s 0).2.2).2.1 (tk 32 (tk 4 s 0).2.1 (tk 4 s 0).2.2).2.2).2.1 (tk 4 (tk 32 (tk 4 s 0).2.1 (tk 4 s 0).2.2).2.1 (tk 32 (tk 4 s 0).2.1 (tk 4 s 0).2.2).2.2).2.2
      exact ⟨Nat.lt_of_le_of_lt a (by decide), Nat.lt_of_le_of_lt b (by decide), Nat.lt_of_le_of_lt c (by decide)⟩
  · exact ⟨by simp [zSt, zSig], by simp [zSt, zSig], by simp [zSt, zSig]⟩
theorem sameU (a : S_api_Update) (h : a.f_Sig.f_Parts.length < 1000000 ∧ a.f_Sig.f_Others.length < 1000000 ∧ a.f_Sig.f_Path.length < 1000000) : ref10_Same a a = some true := by
  unfold ref10_Same ref10_Same.j1
  rw [if_pos (by simp), if_pos (by simp), if_pos (by simp)]
  exact bind_of ((sameS _ _ h).trans (by rw [sigEq_self])) rfl
theorem sameSt (a : S_api_Stop) (h : a.f_Sig.f_Parts.length < 1000000 ∧ a.f_Sig.f_Others.length < 1000000 ∧ a.f_Sig.f_Path.length < 1000000) : ref10_SameStop a a = some true := by
  unfold ref10_SameStop ref10_SameStop.j1
  rw [if_pos (by simp), if_pos (by simp), if_pos (by simp)]
  exact bind_of ((sameS _ _ h).trans (by rw [sigEq_self])) rfl
theorem short_eq (s : S_api_Sig) : law10_short s = some (decide (s.f_Parts.length ≤ 60 ∧ s.f_Others.length ≤ 60 ∧ s.f_Path.length ≤ 60)) := by
  unfold law10_short law10_short.j1
  by_cases a : s.f_Parts.length ≤ 60
  · rw [if_pos (by simp; omega)]
    by_cases b : s.f_Others.length ≤ 60
    · rw [if_pos (by simp; omega)]
      by_cases c : s.f_Path.length ≤ 60
      · simp [a, b, c]; omega
      · simp [a, b, c]; omega
    · rw [if_neg (by simp; omega)]; simp [b]
  · rw [if_neg (by simp; omega)]; simp [a]
theorem updateBytes_true (u : S_api_Update) (x : S_api_Stop) (s : List UInt8) (hu : (0 ≤ u.f_Home ∧ u.f_Home < 4294967296) ∧ u.f_Old.length = 32 ∧ u.f_New.length = 32 ∧ (∀ p ∈ u.f_Sig.f_Parts, p.length = 32) ∧ (∀ p ∈ u.f_Sig.f_Others, p.length = 32) ∧ ∀ p ∈ u.f_Sig.f_Path, p.length = 32)
    (hx : (0 ≤ x.f_Home ∧ x.f_Home < 4294967296) ∧ x.f_Key.length = 32 ∧ (∀ p ∈ x.f_Sig.f_Parts, p.length = 32) ∧ (∀ p ∈ x.f_Sig.f_Others, p.length = 32) ∧ ∀ p ∈ x.f_Sig.f_Path, p.length = 32) : law10_UpdateBytes u x s = some true := by
  obtain ⟨u1, u2, u3, u4, u5, u6⟩ := hu
  obtain ⟨x1, x2, x4, x5, x6⟩ := hx
  have hj : law10_UpdateBytes.j1 u x s true = some true := by
    unfold law10_UpdateBytes.j1
    rw [if_pos rfl]
    exact bind_of awake10 rfl
  unfold law10_UpdateBytes
  refine bind_of awake10 ?_
  rw [if_neg (by simp)]
  refine bind_of (short_eq _) ?_
  by_cases a : u.f_Sig.f_Parts.length ≤ 60 ∧ u.f_Sig.f_Others.length ≤ 60 ∧ u.f_Sig.f_Path.length ≤ 60
  · rw [if_neg (by simp [a])]
    refine bind_of (short_eq _) ?_
    by_cases b : x.f_Sig.f_Parts.length ≤ 60 ∧ x.f_Sig.f_Others.length ≤ 60 ∧ x.f_Sig.f_Path.length ≤ 60
    · rw [if_neg (by simp [b])]
      by_cases c : 10000 < s.length
      · have : decide ((10000 : Int) < (s.length : Int)) = true := by simp; omega
        rw [this]; exact hj
      · have : decide ((10000 : Int) < (s.length : Int)) = false := by simp; omega
        rw [this]
        have hU : Upd60 u := ⟨u1, u2, u3, a.1, a.2.1, a.2.2, u4, u5, u6⟩
        have hX : Stp60 x := ⟨x1, x2, b.1, b.2.1, b.2.2, x4, x5, x6⟩
        unfold law10_UpdateBytes.j1 law10_UpdateBytes.j2
        rw [if_neg (by simp)]
        refine bind_of (rdUW s) (bind_of (rdUR s (by omega)) (bind_of (rdSW s) (bind_of (rdSR s (by omega)) (bind_of awake10 ?_))))
        rw [if_pos rfl]
        refine bind_of (upBW hU) (bind_of (upBR hU) ?_)
        rw [if_pos (by simp)]
        refine bind_of (stBW hX) (bind_of (stBR hX) ?_)
        rw [if_pos (by simp)]
        refine bind_of (sameU _ (rdU_len s)) ?_
        rw [if_pos rfl, if_pos (by simp)]
        refine bind_of (sameSt _ (rdS_len s)) ?_
        rw [if_pos rfl]
        simp
    · rw [if_pos (by simp only [Bool.not_eq_true', decide_eq_false_iff_not]; exact b)]
      exact hj
  · rw [if_pos (by simp only [Bool.not_eq_true', decide_eq_false_iff_not]; exact a)]
    exact hj
end

section
set_option linter.unusedVariables false

theorem tk_app {l : List UInt8} {n : Nat} (h : l.length = n) (r : List UInt8) : tk n (l ++ r) 0 = (l, r, 0) := by
  unfold tk
  rw [if_pos rfl, if_neg (by simp; omega)]
  subst h
  simp
theorem num4_wrd {x : Int} (h : 0 ≤ x ∧ x < 4294967296) : ((num4 (wrd x) : Nat) : Int) = x := by
  obtain ⟨n, rfl⟩ := Int.eq_ofNat_of_zero_le h.1
  have e : wrd (n : Int) = hd4 (n : Int) := by unfold wrd; rw [wu32 h]
  rw [e]
  show (((((u8of (IntKind.wrap .u8 (shr .u64 (n : Int) 24))).toNat * 256 + (u8of (IntKind.wrap .u8 (shr .u64 (n : Int) 16))).toNat) * 256 + (u8of (IntKind.wrap .u8 (shr .u64 (n : Int) 8))).toNat) * 256 + (u8of (IntKind.wrap .u8 (shr .u64 (n : Int) 0))).toNat : Nat) : Int) = (n : Int)
  rw [byteOf (q := 16777216) (by decide) (by decide), byteOf (q := 65536) (by decide) (by decide), byteOf (q := 256) (by decide) (by decide), byteOf (q := 1) (by decide) (by decide)]
  omega
theorem wrd_num4 {l : List UInt8} (h : l.length = 4) : wrd ((num4 l : Nat) : Int) = l := by
  have hn := num4_lt l
  have e : wrd ((num4 l : Nat) : Int) = hd4 ((num4 l : Nat) : Int) := by unfold wrd; rw [wu32 (by omega)]
  rw [e]
  match l, h with
  | [a, b, c, d], _ =>
    have := a.toNat_lt; have := b.toNat_lt; have := c.toNat_lt; have := d.toNat_lt
    have en : num4 [a, b, c, d] = ((a.toNat * 256 + b.toNat) * 256 + c.toNat) * 256 + d.toNat := rfl
    rw [en]
    generalize hN : ((a.toNat * 256 + b.toNat) * 256 + c.toNat) * 256 + d.toNat = N
    unfold hd4
    have e0 : u8of (IntKind.wrap .u8 (shr .u64 (N : Int) 24)) = a := UInt8.toNat_inj.1 (by rw [byteOf (q := 16777216) (by decide) (by decide)]; omega)
    have e1 : u8of (IntKind.wrap .u8 (shr .u64 (N : Int) 16)) = b := UInt8.toNat_inj.1 (by rw [byteOf (q := 65536) (by decide) (by decide)]; omega)
    have e2 : u8of (IntKind.wrap .u8 (shr .u64 (N : Int) 8)) = c := UInt8.toNat_inj.1 (by rw [byteOf (q := 256) (by decide) (by decide)]; omega)
    have e3 : u8of (IntKind.wrap .u8 (shr .u64 (N : Int) 0)) = d := UInt8.toNat_inj.1 (by rw [byteOf (q := 1) (by decide) (by decide)]; omega)
    rw [e0, e1, e2, e3]
theorem dg_of {l : List UInt8} (h : l.length = 32) : dg l = l := by
  unfold dg
  rw [if_neg]
  intro q
  rw [q] at h
  simp at h
theorem ch_of : ∀ (l : List (List UInt8)), (∀ p ∈ l, p.length = 32) → ch l.length l.flatten = l
  | [], _ => rfl
  | p :: l, h => by
    have h1 := h p (by simp)
    have h2 := ch_of l (fun q hq => h q (by simp [hq]))
    show (p ++ l.flatten).take 32 :: ch l.length ((p ++ l.flatten).drop 32) = p :: l
    rw [List.take_append_of_le_length (by omega), List.take_of_length_le (by omega), List.drop_append_of_le_length (by omega), List.drop_of_length_le (by omega), List.nil_append, h2]
theorem cnt_ds {l : List (List UInt8)} (hl : l.length ≤ 32) (r : List UInt8) : cnt (dsB l ++ r) 0 = (l.length, l.flatten ++ r, 0) := by
  have e1 : dsB l ++ r = wrd (l.length : Int) ++ (l.flatten ++ r) := by simp [dsB]
  have e2 := num4_wrd (x := (l.length : Int)) (by omega)
  unfold cnt
  rw [e1, tk_app (wrd_len _)]
  simp only
  have e3 : num4 (wrd (l.length : Int)) = l.length := by omega
  rw [e3, if_neg (by omega)]
theorem dgs_ds {l : List (List UInt8)} (hl : l.length ≤ 32) (h : ∀ p ∈ l, p.length = 32) (r : List UInt8) : dgs (dsB l ++ r) 0 = (l, r, 0) := by
  unfold dgs
  rw [cnt_ds hl]
  simp only
  have e := flat32 l h
  rw [tk_app (show l.flatten.length = l.length * 32 by omega)]
  simp only
  have e2 : l.flatten.length / 32 = l.length := by omega
  rw [e2, ch_of l h]
def Sig32' (s : S_api_Sig) : Prop := (0 ≤ s.f_Index ∧ s.f_Index ≤ 2147483647) ∧ (s.f_Parts.length ≤ 32 ∧ s.f_Others.length ≤ 32 ∧ s.f_Path.length ≤ 32) ∧ (∀ p ∈ s.f_Parts, p.length = 32) ∧ (∀ p ∈ s.f_Others, p.length = 32) ∧ ∀ p ∈ s.f_Path, p.length = 32
theorem sgQ_of {s : S_api_Sig} (h : Sig32' s) (r : List UInt8) : sgQ (sgB s ++ r) 0 = (s, r, 0) := by
  obtain ⟨h0, ⟨h1, h2, h3⟩, h4, h5, h6⟩ := h
  have e1 : sgB s ++ r = wrd s.f_Index ++ (dsB s.f_Parts ++ (dsB s.f_Others ++ (dsB s.f_Path ++ r))) := by simp [sgB]
  have e2 := num4_wrd (x := s.f_Index) (by omega)
  have e3 : sg1 (sgB s ++ r) 0 = (dsB s.f_Parts ++ (dsB s.f_Others ++ (dsB s.f_Path ++ r)), 0) := by
    unfold sg1
    rw [e1, tk_app (wrd_len _)]
    simp only
    rw [if_neg (by omega)]
  have e4 : sgD (dsB s.f_Parts ++ (dsB s.f_Others ++ (dsB s.f_Path ++ r))) 0 = ((s.f_Parts, s.f_Others, s.f_Path), r, 0) := by
    unfold sgD
    simp only
    rw [dgs_ds h1 h4]
    simp only
    rw [dgs_ds h2 h5]
    simp only
    rw [dgs_ds h3 h6]
  unfold sgQ
  rw [e3]
  simp only
  rw [e4]
  simp only
  rw [if_pos trivial, e1, tk_app (wrd_len _)]
  simp only
  rw [e2, w64 (by omega)]
theorem rdU_of {u : S_api_Update} (hh : 0 ≤ u.f_Home ∧ u.f_Home < 4294967296) (ha : u.f_Old.length = 32) (hb : u.f_New.length = 32) (hs : Sig32' u.f_Sig) : rdU (upB u) = (u, 0) := by
  have e1 : upB u = wrd u.f_Home ++ (u.f_Old ++ (u.f_New ++ (sgB u.f_Sig ++ []))) := by simp [upB]
  unfold rdU
  rw [e1, tk_app (wrd_len _)]
  simp only
  rw [tk_app ha]
  simp only
  rw [tk_app hb]
  simp only
  rw [sgQ_of hs]
  simp only
  rw [if_pos (by rfl), num4_wrd hh, dg_of ha, dg_of hb]
theorem rdS_of {u : S_api_Stop} (hh : 0 ≤ u.f_Home ∧ u.f_Home < 4294967296) (ha : u.f_Key.length = 32) (hw : 0 ≤ u.f_Watcher ∧ u.f_Watcher ≤ 2147483647) (hs : Sig32' u.f_Sig) : rdS (stB u) = (u, 0) := by
  have e1 : stB u = wrd u.f_Home ++ (u.f_Key ++ (wrd u.f_Watcher ++ (sgB u.f_Sig ++ []))) := by simp [stB]
  have e2 := num4_wrd (x := u.f_Watcher) (by omega)
  unfold rdS
  rw [e1, tk_app (wrd_len _)]
  simp only
  rw [tk_app ha]
  simp only
  rw [tk_app (wrd_len _)]
  simp only
  rw [sgQ_of hs]
  simp only
  rw [if_pos (by rfl), if_neg (by omega), num4_wrd hh, dg_of ha, e2]
/- The other way. -/
theorem tk_inv {n : Nat} {s : List UInt8} {e : Int} (h : (tk n s e).2.2 = 0) : e = 0 ∧ s = (tk n s e).1 ++ (tk n s e).2.1 ∧ (tk n s e).1.length = n := by
  unfold tk at h ⊢
  by_cases he : e = 0
  · rw [if_pos he] at h ⊢
    by_cases q : s.length < n
    · rw [if_pos q] at h; simp at h
    · rw [if_neg q]; exact ⟨he, by simp, by simp; omega⟩
  · rw [if_neg he] at h; exact absurd h he
theorem fl_ne {k e : Int} (hk : k ≠ 0) : fl k e ≠ 0 := by
  unfold fl
  split
  · exact hk
  · assumption
theorem cnt_inv {s : List UInt8} {e : Int} (h : (cnt s e).2.2 = 0) : e = 0 ∧ s = wrd ((cnt s e).1 : Int) ++ (cnt s e).2.1 := by
  unfold cnt at h ⊢
  by_cases q : 32 < num4 (tk 4 s e).1
  · rw [if_pos q] at h; exact absurd h (fl_ne (by decide))
  · rw [if_neg q] at h ⊢
    obtain ⟨h1, h2, h3⟩ := tk_inv h
    refine ⟨h1, ?_⟩
    show s = wrd ((num4 (tk 4 s e).1 : Nat) : Int) ++ (tk 4 s e).2.1
    rw [wrd_num4 h3]
    exact h2
theorem dgs_inv {s : List UInt8} {e : Int} (h : (dgs s e).2.2 = 0) : e = 0 ∧ s = dsB (dgs s e).1 ++ (dgs s e).2.1 := by
  unfold dgs at h ⊢
  simp only at h ⊢
  obtain ⟨h1, h2, h3⟩ := tk_inv h
  obtain ⟨h4, h5⟩ := cnt_inv h1
  refine ⟨h4, ?_⟩
  have e1 : (tk ((cnt s e).1 * 32) (cnt s e).2.1 (cnt s e).2.2).1.length / 32 = (cnt s e).1 := by omega
  rw [e1]
  unfold dsB
  rw [ch_len, ch_flat, List.take_of_length_le (by omega), List.append_assoc, ← h2]
  exact h5
theorem sgQ_inv {s : List UInt8} {e : Int} (h : (sgQ s e).2.2 = 0) : e = 0 ∧ s = sgB (sgQ s e).1 ++ (sgQ s e).2.1 ∧ Sig32' (sgQ s e).1 := by
  have e0 : (sgQ s e).2 = (sgD (sg1 s e).1 (sg1 s e).2).2 := rfl
  rw [e0] at h
  have hd1 := dgs_inv (s := (dgs (dgs (sg1 s e).1 (sg1 s e).2).2.1 (dgs (sg1 s e).1 (sg1 s e).2).2.2).2.1) (e := (dgs (dgs (sg1 s e).1 (sg1 s e).2).2.1 (dgs (sg1 s e).1 (sg1 s e).2).2.2).2.2) h
  have hd2 := dgs_inv hd1.1
  have hd3 := dgs_inv hd2.1
  have hn := num4_lt (tk 4 s e).1
  have hq : ¬ 2147483647 < num4 (tk 4 s e).1 := by
    intro q
    have := hd3.1
    unfold sg1 at this
    simp only at this
    rw [if_pos q] at this
    exact fl_ne (by decide) this
  have e1 : sg1 s e = (tk 4 s e).2 := by
    unfold sg1
    rw [if_neg hq]
  have ht := tk_inv (show (tk 4 s e).2.2 = 0 by rw [← e1]; exact hd3.1)
  refine ⟨ht.1, ?_, ?_⟩
  · have e2 : (sgQ s e).1 = ⟨IntKind.wrap .i64 (num4 (tk 4 s e).1 : Nat), (sgD (sg1 s e).1 (sg1 s e).2).1.1, (sgD (sg1 s e).1 (sg1 s e).2).1.2.1, (sgD (sg1 s e).1 (sg1 s e).2).1.2.2⟩ := if_pos h
    rw [e2, e0, w64 (by omega)]
    unfold sgB
    simp only
    rw [wrd_num4 ht.2.2]
    unfold sgD
    simp only
    refine ht.2.1.trans ?_
    simp only [List.append_assoc]
    refine congrArg ((tk 4 s e).1 ++ ·) ?_
    have e3 : (tk 4 s e).2.1 = (sg1 s e).1 := by rw [e1]
    rw [e3]
    refine hd3.2.trans (congrArg (dsB _ ++ ·) ?_)
    refine hd2.2.trans (congrArg (dsB _ ++ ·) ?_)
    exact hd1.2
  · have e2 : (sgQ s e).1 = ⟨IntKind.wrap .i64 (num4 (tk 4 s e).1 : Nat), (sgD (sg1 s e).1 (sg1 s e).2).1.1, (sgD (sg1 s e).1 (sg1 s e).2).1.2.1, (sgD (sg1 s e).1 (sg1 s e).2).1.2.2⟩ := if_pos h
    rw [e2, w64 (by omega)]
    exact ⟨by simp only; omega, ⟨dgs_len _ _, dgs_len _ _, dgs_len _ _⟩, dgs_32 _ _, dgs_32 _ _, dgs_32 _ _⟩
theorem en_inv {s : List UInt8} {e : Int} (h : en s e = 0) : e = 0 ∧ s = [] := by
  unfold en at h
  by_cases he : e = 0
  · rw [if_pos he] at h
    by_cases q : s = []
    · exact ⟨he, q⟩
    · rw [if_neg q] at h; exact absurd h (by decide)
  · rw [if_neg he] at h; exact absurd h he
theorem Sig32'.s60 {s : S_api_Sig} (h : Sig32' s) : Sig60 s := ⟨by have := h.2.1.1; omega, by have := h.2.1.2.1; omega, by have := h.2.1.2.2; omega, h.2.2.1, h.2.2.2.1, h.2.2.2.2⟩
theorem rdU_inv {s : List UInt8} (h : (rdU s).2 = 0) : upB (rdU s).1 = s ∧ Upd60 (rdU s).1 := by
  unfold rdU at h ⊢
  simp only at h ⊢
  by_cases q : en (sgQ (tk 32 (tk 32 (tk 4 s 0).2.1 (tk 4 s 0).2.2).2.1 (tk 32 (tk 4 s 0).2.1 (tk 4 s 0).2.2).2.2).2.1 (tk 32 (tk 32 (tk 4 s 0).2.1 (tk 4 s 0).2.2).2.1 (tk 32 (tk 4 s 0).2.1 (tk 4 s 0).2.2).2.2).2.2).2.1 (sgQ (tk 32 (tk 32 (tk 4 s 0).2.1 (tk 4 s 0).2.2).2.1 (tk 32 (tk 4 s 0).2.1 (tk 4 s 0).2.2).2.2).2.1 (tk 32 (tk 32 (tk 4 s 0).2.1 (tk 4 s 0).2.2).2.1 (tk 32 (tk 4 s 0).2.1 (tk 4 s 0).2.2).2.2).2.2).2.2 = 0
  · rw [if_pos q]
    obtain ⟨q1, q2⟩ := en_inv q
    obtain ⟨q3, q4, q5⟩ := sgQ_inv q1
    obtain ⟨q6, q7, q8⟩ := tk_inv q3
    obtain ⟨q9, q10, q11⟩ := tk_inv q6
    obtain ⟨_, q13, q14⟩ := tk_inv q9
    have hn := num4_lt (tk 4 s 0).1
    refine ⟨?_, ⟨⟨by simp only; omega, by simp only; omega⟩, dg_len _ _, dg_len _ _, q5.s60⟩⟩
    unfold upB
    simp only
    rw [wrd_num4 q14, dg_of q11, dg_of q8]
    rw [q2, List.append_nil] at q4
    rw [← q4, List.append_assoc, List.append_assoc, ← q7, ← q10, ← q13]
  · rw [if_neg q] at h; exact absurd h q
theorem rdS_inv {s : List UInt8} (h : (rdS s).2 = 0) : stB (rdS s).1 = s ∧ Stp60 (rdS s).1 := by
  unfold rdS at h ⊢
  simp only at h ⊢
  by_cases q : en (sgQ (tk 4 (tk 32 (tk 4 s 0).2.1 (tk 4 s 0).2.2).2.1 (tk 32 (tk 4 s 0).2.1 (tk 4 s 0).2.2).2.2).2.1 (tk 4 (tk 32 (tk 4 s 0).2.1 (tk 4 s 0).2.2).2.1 (tk 32 (tk 4 s 0).2.1 (tk 4 s 0).2.2).2.2).2.2).2.1 (sgQ (tk 4 (tk 32 (tk 4 s 0).2.1 (tk 4 s 0).2.2).2.1 (tk 32 (tk 4 s 0).2.1 (tk 4 s 0).2.2).2.2).2.1 (tk 4 (tk 32 (tk 4 s 0).2.1 (tk 4 s 0).2.2).2.1 (tk 32 (tk 4 s 0).2.1 (tk 4 s 0).2.2).2.2).2.2).2.2 = 0
  · rw [if_pos q] at h ⊢
    by_cases w : 2147483647 < num4 (tk 4 (tk 32 (tk 4 s 0).2.1 (tk 4 s 0).2.2).2.1 (tk 32 (tk 4 s 0).2.1 (tk 4 s 0).2.2).2.2).1
    · rw [if_pos w] at h; exact absurd h (by decide)
    · rw [if_neg w]
      obtain ⟨q1, q2⟩ := en_inv q
      obtain ⟨q3, q4, q5⟩ := sgQ_inv q1
      obtain ⟨q6, q7, q8⟩ := tk_inv q3
      obtain ⟨q9, q10, q11⟩ := tk_inv q6
      obtain ⟨_, q13, q14⟩ := tk_inv q9
      have hn := num4_lt (tk 4 s 0).1
      refine ⟨?_, ⟨⟨by simp only; omega, by simp only; omega⟩, dg_len _ _, q5.s60⟩⟩
      unfold stB
      simp only
      rw [wrd_num4 q14, dg_of q11, wrd_num4 q8]
      rw [q2, List.append_nil] at q4
      rw [← q4, List.append_assoc, List.append_assoc, ← q7, ← q10, ← q13]
  · rw [if_neg q] at h; exact absurd h q
end

section
set_option linter.unusedVariables false

def hbP (home : Int) (a : List UInt8) (w : Int) : List (List UInt8) := [wrd home, a, wrd w]
theorem hbSmall {home w : Int} {a : List UInt8} (ha : a.length = 32) : Small (hbP home a w) := ⟨fun p hp => by
  simp only [hbP, List.mem_cons, List.not_mem_nil, or_false] at hp
  rcases hp with rfl | rfl | rfl
  · simp [wrd, hd4]
  · omega
  · simp [wrd, hd4], by simp [hbP]⟩
noncomputable def haltB (home : Int) (a : List UInt8) (w : Int) : List UInt8 := H (inp 9 (hbP home a w))
theorem haltB_eq (L : Option O_Log) {home : Int} (hh : 0 ≤ home ∧ home < 4294967296) {a : List UInt8} (ha : a.length = 32) (w : Int) : ∃ L', update_Halt L home a w = some (haltB home a w, L') := by
  obtain ⟨L', h1, h2⟩ := dOf L 9 (hbSmall (home := home) (w := w) ha)
  refine ⟨L', ?_⟩
  unfold update_Halt
  refine bind_of (wordU hh) (bind_of (dig_eq ha) (bind_of (x := wrd w) ?_ (bind_of h1 rfl)))
  obtain ⟨m, k1, k2, k3⟩ := wrap32 w
  rw [← wrd_wrap, k1]
  exact wordB (by omega)
theorem sigV_32' {seed : List UInt8} (h : seed.length = 32) {i : Nat} (hi : i < 16) (d : List UInt8) : Sig32' (sigV seed (leaves seed) i d) := by
  have hl := leaves_len h
  refine ⟨⟨by simp only [sigV]; omega, by simp only [sigV]; omega⟩, ⟨?_, ?_, ?_⟩, (sgP_len h _ d).2, (sgO_len h _ d).2, pathL_len hl.1 hl.2 hi⟩
  · simp only [sigV, (sgP_len h _ d).1]; omega
  · simp only [sigV, (sgO_len h _ d).1]; omega
  · simp [sigV, pathL]
theorem updateBack_true (seed : List UInt8) (home : Int) (a b : List UInt8) (w : Int) (s : List UInt8) (hs : seed.length = 32) (hh : InR .u32 home) (ha : a.length = 32) (hb : b.length = 32) (hw : InR .u16 w) : law10_UpdateBack seed home a b w s = some true := by
  have hH := inrU hh
  have hw' : 0 ≤ w ∧ w ≤ 65535 := by
    have h1 := hw.1
    have h2 := hw.2
    simp [IntKind.min, IntKind.max, IntKind.bits, IntKind.signed] at h1 h2
    omega
  have hl := leaves_len hs
  unfold law10_UpdateBack
  refine bind_of awake10 ?_
  rw [if_neg (by simp)]
  by_cases hc : 10000 < s.length
  · rw [if_pos (by simp; omega)]
    exact bind_of awake10 rfl
  · rw [if_neg (by simp; omega), w64 (by omega)]
    obtain ⟨L1, a1, _⟩ := new_eq none hs
    obtain ⟨L2, a2, _⟩ := root_eq L1 (s := ⟨seed, 0, leaves seed⟩) hl.1 hl.2
    obtain ⟨L3, a3, _⟩ := claim_eq L2 hH ha hb
    obtain ⟨L4, a4, _⟩ := signer_eq L3 (s := ⟨seed, 0, leaves seed⟩) hs hl.1 hl.2 (i := 0) (by omega) rfl (claim home a b)
    obtain ⟨L5, a5⟩ := haltB_eq L4 hH ha w
    obtain ⟨L6, a6, _⟩ := signer_eq L5 (s := ⟨seed, ((0 : Nat) : Int) + 1, leaves seed⟩) hs hl.1 hl.2 (i := 1) (by omega) rfl (haltB home a w)
    have q0 := sigV_32' hs (i := 0) (by omega) (claim home a b)
    have q1 := sigV_32' hs (i := 1) (by omega) (haltB home a w)
    have p0 := sigV_32 hs hl.1 hl.2 (i := 0) (by omega) (claim home a b)
    have p1 := sigV_32 hs hl.1 hl.2 (i := 1) (by omega) (haltB home a w)
    have v0 := verV_sig hs (i := 0) (by omega) (claim home a b)
    have v1 := verV_sig hs (i := 1) (by omega) (haltB home a w)
    simp only at a2 a4 a6
    generalize sigV seed (leaves seed) 0 (claim home a b) = g0 at a4 q0 p0 v0
    generalize sigV seed (leaves seed) 1 (haltB home a w) = g1 at a6 q1 p1 v1
    have sU : update_Sign L2 ⟨seed, 0, leaves seed⟩ home a b = some (⟨seed, ((0 : Nat) : Int) + 1, leaves seed⟩, ⟨home, a, b, g0⟩, 0, L4) := by
      unfold update_Sign
      refine bind_of a3 (bind_of a4 ?_)
      rw [if_neg (by simp)]
    have sS : update_Stop L4 ⟨seed, ((0 : Nat) : Int) + 1, leaves seed⟩ home a w = some (⟨seed, ((1 : Nat) : Int) + 1, leaves seed⟩, ⟨home, a, w, g1⟩, 0, L6) := by
      unfold update_Stop
      refine bind_of a5 (bind_of a6 ?_)
      rw [if_neg (by simp)]
    obtain ⟨L7, a7, _⟩ := claim_eq L6 hH ha hb
    obtain ⟨L8, a8, _⟩ := verify_eq L7 (rootL (leaves seed)) (claim home a b) p0
    obtain ⟨L9, a9⟩ := haltB_eq L8 hH ha w
    obtain ⟨L10, a10, _⟩ := verify_eq L9 (rootL (leaves seed)) (haltB home a w) p1
    rw [v0] at a8
    rw [v1] at a10
    have rU : update_Right L6 (rootL (leaves seed)) ⟨home, a, b, g0⟩ = some (true, L8) := by
      unfold update_Right
      exact bind_of a7 (bind_of a8 rfl)
    have rS : update_Halts L8 (rootL (leaves seed)) ⟨home, a, w, g1⟩ = some (true, L10) := by
      unfold update_Halts
      exact bind_of a9 (bind_of a10 rfl)
    have U60 : Upd60 ⟨home, a, b, g0⟩ := ⟨hH, ha, hb, q0.s60⟩
    have S60 : Stp60 ⟨home, a, w, g1⟩ := ⟨hH, ha, q1.s60⟩
    have bU := rdU_of (u := ⟨home, a, b, g0⟩) hH ha hb q0
    have bS := rdS_of (u := ⟨home, a, w, g1⟩) hH ha ⟨hw'.1, by simp only; omega⟩ q1
    have fin : ∀ L, law10_UpdateBack.j1 s false L = some true := by
      intro L
      unfold law10_UpdateBack.j1 law10_UpdateBack.j2
      rw [if_neg (by simp)]
      refine bind_of (rdUW s) (bind_of (rdSW s) (bind_of awake10 ?_))
      rw [if_pos rfl]
      by_cases h1 : (rdU s).2 = 0
      · obtain ⟨u1, u2⟩ := rdU_inv h1
        rw [if_neg (by simp [h1])]
        refine bind_of (upBW u2) ?_
        rw [u1, if_pos (by simp)]
        by_cases h2 : (rdS s).2 = 0
        · obtain ⟨w1, w2⟩ := rdS_inv h2
          rw [if_neg (by simp [h2])]
          refine bind_of (stBW w2) ?_
          rw [w1]
          simp
        · rw [if_pos (by simp [h2])]
      · rw [if_pos (by simp [h1])]
        by_cases h2 : (rdS s).2 = 0
        · obtain ⟨w1, w2⟩ := rdS_inv h2
          rw [if_neg (by simp [h2])]
          refine bind_of (stBW w2) ?_
          rw [w1]
          simp
        · rw [if_pos (by simp [h2])]
    refine bind_of a1 (bind_of a2 (bind_of sU (bind_of sS (bind_of (upBW U60) (bind_of (rdUW _) (bind_of (stBW S60) (bind_of (rdSW _) ?_)))))))
    rw [bU, bS]
    simp only
    rw [if_neg (by simp), if_neg (by simp), if_neg (by simp), if_neg (by simp)]
    have l0 := q0.2.1
    have l1 := q1.2.1
    refine bind_of (sameU _ ⟨by simp only; omega, by simp only; omega, by simp only; omega⟩) ?_
    rw [if_neg (by simp)]
    refine bind_of (sameSt _ ⟨by simp only; omega, by simp only; omega, by simp only; omega⟩) ?_
    rw [if_neg (by simp)]
    refine bind_of rU ?_
    rw [if_neg (by simp)]
    refine bind_of rS ?_
    exact fin _
end
end Go.Proofs.YtnjkofmmpfehcaaDoorR
