/- Plain laws of bytes that are read: the program's reader and the document's, in one form. -/
import Derived.Test.YtnjkofmmpfehcaaDoorRP5n
import Derived.Laws.BitsLemmas
namespace Go.Proofs.YtnjkofmmpfehcaaDoorR
open Go Go.RowKit Go.Proofs
set_option linter.unusedVariables false

def tk (n : Nat) (s : List UInt8) (e : Int) : List UInt8 × List UInt8 × Int := if e = 0 then (if s.length < n then ([], s, 3) else (s.take n, s.drop n, 0)) else ([], s, e)
theorem tkW (n : Nat) (s : List UInt8) (e : Int) : wire_Reader_take ⟨s, e⟩ (n : Int) = some ((tk n s e).1, ⟨(tk n s e).2.1, (tk n s e).2.2⟩) := by
  unfold wire_Reader_take tk
  by_cases he : e = 0
  · subst he
    rw [if_neg (by simp)]
    by_cases h : s.length < n
    · rw [if_pos (by simp; omega)]; simp [h]
    · rw [if_neg (by simp; omega), if_pos (by simp; omega), if_pos (by simp; omega)]; simp [h]
  · rw [if_pos (by simp [he])]; simp [he]
theorem tkR (n : Nat) (s : List UInt8) (e : Int) : ref03_Reader_Take ⟨s, e⟩ (n : Int) = some ((tk n s e).1, ⟨(tk n s e).2.1, (tk n s e).2.2⟩) := by
  unfold ref03_Reader_Take ref03_Reader_Take.j1 ref03_Reader_Take.j2 tk
  by_cases he : e = 0
  · subst he
    rw [if_pos (by simp)]
    by_cases h : s.length < n
    · rw [if_pos (by simp; omega), if_pos (by simp)]; simp [h]
    · rw [if_neg (by simp; omega), if_neg (by simp), if_pos (by simp; omega), if_pos (by simp; omega)]; simp [h]
  · rw [if_neg (by simp [he]), if_neg (by simp), if_pos (by simp [he])]; simp [he]
theorem tk_len (n : Nat) (s : List UInt8) (e : Int) : (tk n s e).1 = [] ∨ (tk n s e).1.length = n := by
  unfold tk
  split
  · split
    · exact .inl rfl
    · exact .inr (by simp; omega)
  · exact .inl rfl
theorem tk_rest (n : Nat) (s : List UInt8) (e : Int) : (tk n s e).2.1.length ≤ s.length := by
  unfold tk
  split
  · split
    · exact Nat.le_refl _
    · simp
  · exact Nat.le_refl _
def num4 (l : List UInt8) : Nat := match l with | [a, b, c, d] => ((a.toNat * 256 + b.toNat) * 256 + c.toNat) * 256 + d.toNat | _ => 0
theorem num4_lt (l : List UInt8) : num4 l < 4294967296 := by
  unfold num4
  split
  · rename_i a b c d
    have := a.toNat_lt; have := b.toNat_lt; have := c.toNat_lt; have := d.toNat_lt
    omega
  · decide
theorem stepW (r1 : (List UInt8) × O_Rdr) (x i : Nat) (hx : x < 16777216) (hi : i < r1.1.length) (hl : r1.1.length ≤ 100) :
    wire_Reader_number.b1 r1 (x : Int) (i : Int) = some (.cont (((x * 256 + (r1.1.getD i default).toNat : Nat) : Int), ((i + 1 : Nat) : Int))) := by
  have hb := (r1.1.getD i default).toNat_lt
  have e8 : shl .u64 (x : Int) 8 = IntKind.wrap .u64 ((x : Int) * 256) := rfl
  have e1 : ((i : Nat) : Int).toNat = i := by omega
  unfold wire_Reader_number.b1
  rw [if_pos (by simp; omega), if_pos (by omega), e8, e1, w64 (by omega)]
  generalize (r1.1.getD i default).toNat = b at hb
  rw [wu64 (by omega), wu64 (by omega), bits_join .u64 64 (by decide) (fun n h0 h1 => wu64 ⟨h0, by omega⟩) 8 ((x : Int) * 256) (b : Int) (by omega) (by omega) (by omega) (by omega) (by omega) (by omega)]
  rw [show ((x * 256 + b : Nat) : Int) = (x : Int) * 256 + b by omega]
  rfl
theorem stepR (r1 : (List UInt8) × O_RRdr) (x i : Nat) (hx : x < 16777216) (hi : i < r1.1.length) (hl : r1.1.length ≤ 100) :
    ref03_Reader_Number.b1 r1 (x : Int) (i : Int) = some (.cont (((x * 256 + (r1.1.getD i default).toNat : Nat) : Int), ((i + 1 : Nat) : Int))) := by
  have hb := (r1.1.getD i default).toNat_lt
  have e1 : ((i : Nat) : Int).toNat = i := by omega
  have e2 : r1.1.getD i 0 = r1.1.getD i default := rfl
  unfold ref03_Reader_Number.b1
  rw [if_pos (by simp; omega), if_pos (by omega), e1, e2, w64 (by omega)]
  generalize (r1.1.getD i default).toNat = b at hb
  rw [wu64 (x := (b : Int)) (by omega), wu64 (x := (x : Int) * 256) (by omega), wu64 (by omega)]
  rw [show ((x * 256 + b : Nat) : Int) = (x : Int) * 256 + b by omega]
  rfl
theorem numW (s : List UInt8) (e : Int) : wire_Reader_number ⟨s, e⟩ 4 = some (((num4 (tk 4 s e).1 : Nat) : Int), ⟨(tk 4 s e).2.1, (tk 4 s e).2.2⟩) := by
  unfold wire_Reader_number
  refine bind_of (tkW 4 s e) ?_
  generalize hr : (((tk 4 s e).1, (⟨(tk 4 s e).2.1, (tk 4 s e).2.2⟩ : O_Rdr)) : (List UInt8) × O_Rdr) = r1
  have h1 : r1.1 = (tk 4 s e).1 := by rw [← hr]
  have h2 : r1.2 = ⟨(tk 4 s e).2.1, (tk 4 s e).2.2⟩ := by rw [← hr]
  rcases tk_len 4 s e with h | h
  · rw [← h1] at h
    refine bind_next (s := (0, 0)) ?_ (by rw [h2, ← h1, h]; rfl)
    rw [h]
    refine loop_brk 1 ?_
    show wire_Reader_number.b1 r1 0 0 = _
    unfold wire_Reader_number.b1
    rw [if_neg (by rw [h]; simp)]
  · rw [← h1] at h
    obtain ⟨a, b, c, d, hl⟩ : ∃ a b c d, r1.1 = [a, b, c, d] := by
      match hq : r1.1, h with
      | [a, b, c, d], _ => exact ⟨a, b, c, d, rfl⟩
    have := a.toNat_lt; have := b.toNat_lt; have := c.toNat_lt; have := d.toNat_lt
    refine bind_next (s := (((num4 r1.1 : Nat) : Int), 4)) ?_ (by rw [h2, ← h1])
    have s0 := stepW r1 0 0 (by omega) (by omega) (by omega)
    have s1 := stepW r1 a.toNat 1 (by omega) (by omega) (by omega)
    have s2 := stepW r1 (a.toNat * 256 + b.toNat) 2 (by omega) (by omega) (by omega)
    have s3 := stepW r1 ((a.toNat * 256 + b.toNat) * 256 + c.toNat) 3 (by omega) (by omega) (by omega)
    have g0 : r1.1.getD 0 default = a := by rw [hl]; rfl
    have g1 : r1.1.getD 1 default = b := by rw [hl]; rfl
    have g2 : r1.1.getD 2 default = c := by rw [hl]; rfl
    have g3 : r1.1.getD 3 default = d := by rw [hl]; rfl
    rw [g0, Nat.zero_mul, Nat.zero_add] at s0
    rw [g1] at s1
    rw [g2] at s2
    rw [g3] at s3
    have hf : ((r1.1.length : Int) - 0 : Int).toNat + 2 = 6 := by omega
    rw [hf]
    have hn : num4 r1.1 = ((a.toNat * 256 + b.toNat) * 256 + c.toNat) * 256 + d.toNat := by rw [hl]; rfl
    rw [hn]
    refine loop_cont (body := fun s : Int × Int => wire_Reader_number.b1 r1 s.1 s.2) 5 s0 (loop_cont 4 s1 (loop_cont 3 s2 (loop_cont 2 s3 (loop_brk 1 ?_))))
    show wire_Reader_number.b1 r1 _ _ = _
    unfold wire_Reader_number.b1
    rw [if_neg (by simp; omega)]
    rfl
theorem numR (s : List UInt8) (e : Int) : ref03_Reader_Number ⟨s, e⟩ 4 = some (((num4 (tk 4 s e).1 : Nat) : Int), ⟨(tk 4 s e).2.1, (tk 4 s e).2.2⟩) := by
  unfold ref03_Reader_Number
  refine bind_of (tkR 4 s e) ?_
  generalize hr : (((tk 4 s e).1, (⟨(tk 4 s e).2.1, (tk 4 s e).2.2⟩ : O_RRdr)) : (List UInt8) × O_RRdr) = r1
  have h1 : r1.1 = (tk 4 s e).1 := by rw [← hr]
  have h2 : r1.2 = ⟨(tk 4 s e).2.1, (tk 4 s e).2.2⟩ := by rw [← hr]
  rcases tk_len 4 s e with h | h
  · rw [← h1] at h
    refine bind_next (s := (0, 0)) ?_ (by rw [h2, ← h1, h]; rfl)
    rw [h]
    refine loop_brk 1 ?_
    show ref03_Reader_Number.b1 r1 0 0 = _
    unfold ref03_Reader_Number.b1
    rw [if_neg (by rw [h]; simp)]
  · rw [← h1] at h
    obtain ⟨a, b, c, d, hl⟩ : ∃ a b c d, r1.1 = [a, b, c, d] := by
      match hq : r1.1, h with
      | [a, b, c, d], _ => exact ⟨a, b, c, d, rfl⟩
    have := a.toNat_lt; have := b.toNat_lt; have := c.toNat_lt; have := d.toNat_lt
    refine bind_next (s := (((num4 r1.1 : Nat) : Int), 4)) ?_ (by rw [h2, ← h1])
    have s0 := stepR r1 0 0 (by omega) (by omega) (by omega)
    have s1 := stepR r1 a.toNat 1 (by omega) (by omega) (by omega)
    have s2 := stepR r1 (a.toNat * 256 + b.toNat) 2 (by omega) (by omega) (by omega)
    have s3 := stepR r1 ((a.toNat * 256 + b.toNat) * 256 + c.toNat) 3 (by omega) (by omega) (by omega)
    have g0 : r1.1.getD 0 default = a := by rw [hl]; rfl
    have g1 : r1.1.getD 1 default = b := by rw [hl]; rfl
    have g2 : r1.1.getD 2 default = c := by rw [hl]; rfl
    have g3 : r1.1.getD 3 default = d := by rw [hl]; rfl
    rw [g0, Nat.zero_mul, Nat.zero_add] at s0
    rw [g1] at s1
    rw [g2] at s2
    rw [g3] at s3
    have hf : ((r1.1.length : Int) - 0 : Int).toNat + 2 = 6 := by omega
    rw [hf]
    have hn : num4 r1.1 = ((a.toNat * 256 + b.toNat) * 256 + c.toNat) * 256 + d.toNat := by rw [hl]; rfl
    rw [hn]
    refine loop_cont (body := fun s : Int × Int => ref03_Reader_Number.b1 r1 s.1 s.2) 5 s0 (loop_cont 4 s1 (loop_cont 3 s2 (loop_cont 2 s3 (loop_brk 1 ?_))))
    show ref03_Reader_Number.b1 r1 _ _ = _
    unfold ref03_Reader_Number.b1
    rw [if_neg (by simp; omega)]
    rfl
theorem wordRd (s : List UInt8) (e : Int) : wire_Reader_Word ⟨s, e⟩ = some (((num4 (tk 4 s e).1 : Nat) : Int), ⟨(tk 4 s e).2.1, (tk 4 s e).2.2⟩) := by
  unfold wire_Reader_Word
  refine bind_of (numW s e) ?_
  have := num4_lt (tk 4 s e).1
  rw [wu32 (by omega)]
def dg (l : List UInt8) : List UInt8 := if l = [] then List.replicate 32 0 else l
theorem dg_len (s : List UInt8) (e : Int) : (dg (tk 32 s e).1).length = 32 := by
  unfold dg
  rcases tk_len 32 s e with h | h
  · rw [if_pos h]; simp
  · rw [if_neg (by intro q; rw [q] at h; simp at h)]; exact h
theorem digW (s : List UInt8) (e : Int) : wire_Reader_Digest ⟨s, e⟩ = some (dg (tk 32 s e).1, ⟨(tk 32 s e).2.1, (tk 32 s e).2.2⟩) := by
  unfold wire_Reader_Digest
  refine bind_of (tkW 32 s e) ?_
  unfold dg
  rcases tk_len 32 s e with h | h
  · rw [h]; rfl
  · rw [if_neg (by intro q; rw [q] at h; simp at h)]
    show some ((List.replicate 32 0).take 0 ++ (tk 32 s e).1.take (min (tk 32 s e).1.length 32) ++ (List.replicate 32 0).drop (0 + (min (tk 32 s e).1.length 32)), _) = _
    rw [h]
    simp [h, List.take_of_length_le]
theorem digR (s : List UInt8) (e : Int) : ref03_Reader_Digest ⟨s, e⟩ = some (dg (tk 32 s e).1, ⟨(tk 32 s e).2.1, (tk 32 s e).2.2⟩) := by
  unfold ref03_Reader_Digest
  refine bind_of (tkR 32 s e) ?_
  generalize hr : (((tk 32 s e).1, (⟨(tk 32 s e).2.1, (tk 32 s e).2.2⟩ : O_RRdr)) : (List UInt8) × O_RRdr) = r1
  have h1 : r1.1 = (tk 32 s e).1 := by rw [← hr]
  have h2 : r1.2 = ⟨(tk 32 s e).2.1, (tk 32 s e).2.2⟩ := by rw [← hr]
  rw [← h2, ← h1]
  have hL : r1.1 = [] ∨ r1.1.length = 32 := by rw [h1]; exact tk_len 32 s e
  clear h1 h2 hr
  obtain ⟨c, h3, h4⟩ := loop_ok (body := fun s : Int × (List UInt8) => ref03_Reader_Digest.b1 r1 s.1 s.2) (fun s => ∃ i : Nat, i ≤ r1.1.length ∧ s.1 = (i : Int) ∧ s.2.length = 32 ∧ (∀ j, j < i → s.2[j]? = r1.1[j]?) ∧ (r1.1 = [] → s.2 = List.replicate 32 0))
      (fun c => match c with | .next s => s.2 = dg r1.1 | .ret r => False) (fun s => (r1.1.length - s.1).toNat)
      (fun s ⟨i, hi, hs, hl, hj, hz⟩ => by
        obtain ⟨si, sl⟩ := s
        simp only at hs hl hj hz
        subst hs
        by_cases h : i < r1.1.length
        · have hlen : r1.1.length = 32 := by rcases hL with q | q; · rw [q] at h; simp at h
                                             · exact q
          refine .inl ⟨(((i + 1 : Nat) : Int), sl.set i (r1.1[i])), ?_, ⟨i + 1, by omega, rfl, by simp [hl], fun j hj' => ?_, fun q => by rw [q] at h; simp at h⟩, by simp; omega⟩
          · show ref03_Reader_Digest.b1 r1 _ _ = _
            unfold ref03_Reader_Digest.b1
            have e1 : ((i : Nat) : Int).toNat = i := by omega
            have e2 : u8of ((r1.1.getD i 0).toNat : Int) = r1.1[i] := by
              have : r1.1.getD i 0 = r1.1[i] := by simp [List.getD, h]
              rw [this]; simp [u8of]
            rw [if_pos (by simp; omega), if_pos (by omega), if_pos (by omega), w64 (by omega), e1, e2]
            rfl
          · by_cases q : j = i
            · subst q; simp [h, hl, show j < 32 by omega]
            · simp only [List.getElem?_set]
              rw [if_neg (by omega)]
              exact hj j (by omega)
        · have hi' : i = r1.1.length := by omega
          refine .inr (.inl ⟨((i : Int), sl), ?_, ?_⟩)
          · show ref03_Reader_Digest.b1 r1 _ _ = _
            unfold ref03_Reader_Digest.b1
            rw [if_neg (by simp; omega)]
          · show sl = dg r1.1
            unfold dg
            split
            · rename_i q; exact hz q
            · rename_i q
              have hlen : r1.1.length = 32 := hL.resolve_left q
              refine List.ext_getElem? fun j => ?_
              by_cases hlt : j < i
              · exact hj j hlt
              · rw [List.getElem?_eq_none (by omega), List.getElem?_eq_none (by omega)]) (((r1.1.length : Int) - 0 : Int).toNat + 2) (0, List.replicate 32 0) ⟨0, by omega, rfl, by simp, fun j hj => by omega, fun _ => rfl⟩ (by simp)
  cases c with
  | ret r => exact h4.elim
  | next s =>
    have h4 : s.2 = dg r1.1 := h4
    refine bind_next h3 ?_
    rw [← h4]
def fl (k e : Int) : Int := if e = 0 then k else e
theorem flW (k : Int) (s : List UInt8) (e : Int) : wire_Reader_Fail ⟨s, e⟩ k = some ⟨s, fl k e⟩ := by
  unfold wire_Reader_Fail wire_Reader_Fail.j1 fl
  by_cases he : e = 0
  · rw [if_pos (by simp [he]), if_pos he]
  · rw [if_neg (by simp [he]), if_neg he]
theorem flR (k : Int) (s : List UInt8) (e : Int) : ref03_Reader_Fail ⟨s, e⟩ k = some ⟨s, fl k e⟩ := by
  unfold ref03_Reader_Fail ref03_Reader_Fail.j1 fl
  by_cases he : e = 0
  · rw [if_pos (by simp [he]), if_pos he]
  · rw [if_neg (by simp [he]), if_neg he]
def cnt (s : List UInt8) (e : Int) : Nat × List UInt8 × Int := if 32 < num4 (tk 4 s e).1 then (0, (tk 4 s e).2.1, fl 5 (tk 4 s e).2.2) else (num4 (tk 4 s e).1, (tk 4 s e).2.1, (tk 4 s e).2.2)
theorem cnt_le (s : List UInt8) (e : Int) : (cnt s e).1 ≤ 32 := by unfold cnt; split <;> simp <;> omega
theorem cnt_rest (s : List UInt8) (e : Int) : (cnt s e).2.1.length ≤ s.length := by
  have := tk_rest 4 s e
  unfold cnt; split <;> exact this
theorem cntW (s : List UInt8) (e : Int) : wire_Reader_count ⟨s, e⟩ 32 = some (((cnt s e).1 : Int), ⟨(cnt s e).2.1, (cnt s e).2.2⟩) := by
  unfold wire_Reader_count
  refine bind_of (numW s e) ?_
  have hn := num4_lt (tk 4 s e).1
  have e1 : IntKind.wrap .u64 (if (32 : Int) < 0 then 0 else 32) = 32 := by decide
  rw [e1]
  unfold cnt
  by_cases h : 32 < num4 (tk 4 s e).1
  · rw [if_pos (by simp; omega), if_pos h]
    exact bind_of (flW 5 _ _) rfl
  · rw [if_neg (by simp; omega), if_neg h, w64 (by omega)]
theorem cntR (s : List UInt8) (e : Int) : ref03_Reader_many ⟨s, e⟩ 32 = some (((cnt s e).1 : Int), ⟨(cnt s e).2.1, (cnt s e).2.2⟩) := by
  unfold ref03_Reader_many
  refine bind_of (numR s e) ?_
  have hn := num4_lt (tk 4 s e).1
  have e1 : IntKind.wrap .u64 32 = 32 := by decide
  rw [if_neg (by decide), if_pos (by decide), e1]
  unfold ref03_Reader_many.j1 cnt
  by_cases h : 32 < num4 (tk 4 s e).1
  · rw [if_pos (by simp; omega), if_pos h]
    exact bind_of (flR 5 _ _) rfl
  · rw [if_neg (by simp; omega), if_neg h, w64 (by omega)]
def ch : Nat → List UInt8 → List (List UInt8)
  | 0, _ => []
  | n + 1, s => s.take 32 :: ch n (s.drop 32)
theorem ch_len : ∀ (n : Nat) (s : List UInt8), (ch n s).length = n
  | 0, _ => rfl
  | n + 1, s => by simp [ch, ch_len n]
theorem ch_32 : ∀ (n : Nat) (s : List UInt8), 32 * n ≤ s.length → ∀ p ∈ ch n s, p.length = 32
  | 0, _, _, p, h => by simp [ch] at h
  | n + 1, s, hs, p, h => by
    simp only [ch, List.mem_cons] at h
    rcases h with rfl | h
    · simp; omega
    · exact ch_32 n (s.drop 32) (by simp; omega) p h
theorem ch_flat : ∀ (n : Nat) (s : List UInt8), (ch n s).flatten = s.take (32 * n)
  | 0, s => by simp [ch]
  | n + 1, s => by
    simp only [ch, List.flatten_cons, ch_flat n]
    have : 32 * (n + 1) = 32 + 32 * n := by omega
    rw [this, List.take_add]
theorem ch_take : ∀ (n : Nat) (s : List UInt8), ch n (s.take (32 * n)) = ch n s
  | 0, s => rfl
  | n + 1, s => by
    simp only [ch]
    rw [List.take_take, List.drop_take]
    have e1 : min 32 (32 * (n + 1)) = 32 := by omega
    have e2 : 32 * (n + 1) - 32 = 32 * n := by omega
    rw [e1, e2, ch_take n]
def dgs (s : List UInt8) (e : Int) : List (List UInt8) × List UInt8 × Int := (ch ((tk ((cnt s e).1 * 32) (cnt s e).2.1 (cnt s e).2.2).1.length / 32) (tk ((cnt s e).1 * 32) (cnt s e).2.1 (cnt s e).2.2).1, (tk ((cnt s e).1 * 32) (cnt s e).2.1 (cnt s e).2.2).2)
theorem dgs_len (s : List UInt8) (e : Int) : (dgs s e).1.length ≤ 32 := by
  unfold dgs
  rw [ch_len]
  have := cnt_le s e
  rcases tk_len ((cnt s e).1 * 32) (cnt s e).2.1 (cnt s e).2.2 with h | h
  · rw [h]; simp
  · rw [h]; omega
theorem dgs_32 (s : List UInt8) (e : Int) : ∀ p ∈ (dgs s e).1, p.length = 32 := by
  unfold dgs
  refine ch_32 _ _ ?_
  omega
theorem dgs_rest (s : List UInt8) (e : Int) : (dgs s e).2.1.length ≤ s.length := Nat.le_trans (tk_rest _ _ _) (cnt_rest s e)
theorem loopW : ∀ (k f : Nat) (x : List UInt8) (acc : List (List UInt8)), x.length = 32 * k → k < f → acc.length + k < 1000 →
    loopN (fun s : (List UInt8) × (List (List UInt8)) => wire_Reader_Digests.b1 s.1 s.2) f (x, acc) = some (.next ([], acc ++ ch k x))
  | 0, f + 1, x, acc, hx, hf, ha => by
    have : x = [] := List.length_eq_zero_iff.1 (by omega)
    subst this
    refine (loop_brk f (s' := ([], acc)) ?_).trans (by simp [ch])
    show wire_Reader_Digests.b1 [] acc = _
    unfold wire_Reader_Digests.b1
    rw [if_neg (by simp)]
  | k + 1, f + 1, x, acc, hx, hf, ha => by
    have hne : x ≠ [] := by intro q; rw [q] at hx; simp at hx
    have hp : (List.replicate 32 0).take (0 : Int).toNat ++ x.take (min x.length ((32 : Int).toNat - (0 : Int).toNat)) ++ (List.replicate 32 0).drop ((0 : Int).toNat + (min x.length ((32 : Int).toNat - (0 : Int).toNat))) = x.take 32 := by
      show (List.replicate 32 0).take 0 ++ x.take (min x.length 32) ++ (List.replicate 32 0).drop (0 + (min x.length 32)) = x.take 32
      have : min x.length 32 = 32 := by omega
      rw [this]
      simp
    have hd : (x.take (x.length : Int).toNat).drop (32 : Int).toNat = x.drop 32 := by
      show (x.take (x.length : Int).toNat).drop 32 = x.drop 32
      simp
    refine loop_cont f (s' := (x.drop 32, acc ++ [x.take 32])) ?_ ?_
    · show wire_Reader_Digests.b1 x acc = _
      unfold wire_Reader_Digests.b1
      rw [if_pos (by simp [hne])]
      rw [hp]
      rw [if_pos (by simp [mxl]; omega), if_pos (by omega)]
      exact congrArg (fun q => some (Flow.cont (q, acc ++ [x.take 32]))) hd
    · rw [loopW k f (x.drop 32) (acc ++ [x.take 32]) (by simp; omega) (by omega) (by simp; omega)]
      simp [ch]
theorem dgsW (s : List UInt8) (e : Int) : wire_Reader_Digests ⟨s, e⟩ 32 = some ((dgs s e).1, ⟨(dgs s e).2.1, (dgs s e).2.2⟩) := by
  have hc := cnt_le s e
  unfold wire_Reader_Digests
  refine bind_of (cntW s e) ?_
  have e1 : IntKind.wrap .i64 (((cnt s e).1 : Int) * 32) = (((cnt s e).1 * 32 : Nat) : Int) := by rw [w64 (by omega)]; norm_cast
  rw [e1]
  refine bind_of (tkW _ _ _) ?_
  have hl := tk_len ((cnt s e).1 * 32) (cnt s e).2.1 (cnt s e).2.2
  refine bind_next (loopW ((tk ((cnt s e).1 * 32) (cnt s e).2.1 (cnt s e).2.2).1.length / 32) 100000 _ [] ?_ ?_ ?_) ?_
  · rcases hl with h | h
    · rw [h]; rfl
    · rw [h]; omega
  · rcases hl with h | h
    · rw [h]; decide
    · rw [h]; omega
  · rcases hl with h | h
    · rw [h]; decide
    · rw [h]; simp; omega
  · rfl
theorem loopR (n : Nat) (r : O_RRdr) (hn : n ≤ 32) : ∀ (k f i : Nat) (x : List UInt8) (acc : List (List UInt8)), 32 * k ≤ x.length → i + k = n → k < f → acc.length + k < 1000 →
    loopN (fun s : Int × O_RRdr × (List (List UInt8)) => ref03_Reader_Digests.b1 ((n : Int), r) s.1 s.2.1 s.2.2) f ((i : Int), ⟨x, 0⟩, acc) = some (.next ((n : Int), ⟨x.drop (32 * k), 0⟩, acc ++ ch k x))
  | 0, f + 1, i, x, acc, hx, hi, hf, ha => by
    have : i = n := by omega
    subst this
    refine (loop_brk f (s' := ((i : Int), ⟨x, 0⟩, acc)) ?_).trans (by simp [ch])
    show ref03_Reader_Digests.b1 _ _ _ _ = _
    unfold ref03_Reader_Digests.b1 ref03_Reader_Digests.j3
    rw [if_neg (by simp), if_neg (by simp)]
  | k + 1, f + 1, i, x, acc, hx, hi, hf, ha => by
    have ht : tk 32 x 0 = (x.take 32, x.drop 32, 0) := by unfold tk; rw [if_pos rfl, if_neg (by omega)]
    have hg : dg (x.take 32) = x.take 32 := by
      unfold dg
      rw [if_neg]
      intro q
      have h0 : (x.take 32).length = 0 := by rw [q]; rfl
      rw [List.length_take] at h0
      omega
    refine loop_cont f (s' := (((i + 1 : Nat) : Int), ⟨x.drop 32, 0⟩, acc ++ [x.take 32])) ?_ ?_
    · show ref03_Reader_Digests.b1 _ (i : Int) ⟨x, 0⟩ acc = _
      unfold ref03_Reader_Digests.b1 ref03_Reader_Digests.j3
      rw [if_pos (by show decide ((i : Int) < (n : Int)) = true; simp; omega), if_pos (by simp)]
      have hD := digR x 0
      rw [ht, hg] at hD
      refine bind_of hD ?_
      rw [if_pos (by simp [mxl]; omega), w64 (by omega)]
      rfl
    · rw [loopR n r hn k f (i + 1) (x.drop 32) (acc ++ [x.take 32]) (by simp; omega) (by omega) (by omega) (by simp; omega)]
      have : 32 * (k + 1) = 32 + 32 * k := by omega
      simp [ch, this]
theorem stopR (n : Nat) (r rd : O_RRdr) (acc : List (List UInt8)) (h : rd.f_Bad ≠ 0) : loopN (fun s : Int × O_RRdr × (List (List UInt8)) => ref03_Reader_Digests.b1 ((n : Int), r) s.1 s.2.1 s.2.2) 100000 (0, rd, acc) = some (.next (0, rd, acc)) := by
  refine loop_brk 99999 ?_
  show ref03_Reader_Digests.b1 _ _ _ _ = _
  unfold ref03_Reader_Digests.b1 ref03_Reader_Digests.j3
  by_cases hn : (0 : Int) < n
  · rw [if_pos (by simpa using hn), if_neg (by simp [h])]
  · rw [if_neg (by simpa using hn), if_neg (by simp)]
theorem dgsR (s : List UInt8) (e : Int) (hs : s.length < 1000000) : ref03_Reader_Digests ⟨s, e⟩ 32 = some ((dgs s e).1, ⟨(dgs s e).2.1, (dgs s e).2.2⟩) := by
  have hc := cnt_le s e
  have hr := cnt_rest s e
  unfold ref03_Reader_Digests
  refine bind_of (cntR s e) ?_
  unfold dgs
  generalize hx : cnt s e = x at hc hr
  obtain ⟨n, t, b⟩ := x
  simp only at hc hr ⊢
  unfold ref03_Reader_Digests.j1 ref03_Reader_Digests.j2
  by_cases hb : b = 0
  · subst hb
    rw [if_pos (by simp)]
    have e1 : IntKind.wrap .i64 ((t.length : Int).tdiv 32) = ((t.length / 32 : Nat) : Int) := by
      rw [Int.tdiv_eq_ediv_of_nonneg (by omega), w64 (by omega)]; simp
    rw [e1]
    unfold tk
    rw [if_pos rfl]
    by_cases h : t.length < n * 32
    · rw [if_pos (by simp; omega), if_pos h]
      refine bind_next (stopR n _ _ _ (by simp)) ?_
      show some (([] : List (List UInt8)), (⟨t, 3⟩ : O_RRdr)) = some (ch (([] : List UInt8).length / 32) [], ⟨t, 3⟩)
      rw [show ([] : List UInt8).length / 32 = 0 from rfl]
      rfl
    · rw [if_neg (by simp; omega), if_neg h]
      refine bind_next (loopR n _ hc n 100000 0 t [] (by omega) (by omega) (by omega) (by simp; omega)) ?_
      have e2 : (t.take (n * 32)).length / 32 = n := by simp; omega
      simp only [List.nil_append]
      rw [e2, Nat.mul_comm n 32, ch_take]
  · rw [if_neg (by simp [hb]), if_neg (by simp)]
    unfold tk
    rw [if_neg hb]
    refine bind_next (stopR n _ _ _ hb) ?_
    show some (([] : List (List UInt8)), (⟨t, b⟩ : O_RRdr)) = some (ch (([] : List UInt8).length / 32) [], ⟨t, b⟩)
    rw [show ([] : List UInt8).length / 32 = 0 from rfl]
    rfl
/-- A signature that is read. -/
def sg1 (s : List UInt8) (e : Int) : List UInt8 × Int := ((tk 4 s e).2.1, if 2147483647 < num4 (tk 4 s e).1 then fl 8 (tk 4 s e).2.2 else (tk 4 s e).2.2)
def sgD (s : List UInt8) (e : Int) : (List (List UInt8) × List (List UInt8) × List (List UInt8)) × List UInt8 × Int :=
  let d1 := dgs s e
  let d2 := dgs d1.2.1 d1.2.2
  let d3 := dgs d2.2.1 d2.2.2
  ((d1.1, d2.1, d3.1), d3.2)
theorem sgD_rest (s : List UInt8) (e : Int) : (sgD s e).2.1.length ≤ s.length := Nat.le_trans (dgs_rest _ _) (Nat.le_trans (dgs_rest _ _) (dgs_rest _ _))
def sgQ (s : List UInt8) (e : Int) : S_api_Sig × List UInt8 × Int :=
  let d := sgD (sg1 s e).1 (sg1 s e).2
  (if d.2.2 = 0 then ⟨IntKind.wrap .i64 (num4 (tk 4 s e).1 : Nat), d.1.1, d.1.2.1, d.1.2.2⟩ else ⟨0, [], [], []⟩, d.2)
theorem sgQ_len (s : List UInt8) (e : Int) : (sgQ s e).1.f_Parts.length ≤ 32 ∧ (sgQ s e).1.f_Others.length ≤ 32 ∧ (sgQ s e).1.f_Path.length ≤ 32 := by
  unfold sgQ
  simp only
  split
  · exact ⟨dgs_len _ _, dgs_len _ _, dgs_len _ _⟩
  · exact ⟨by simp, by simp, by simp⟩
theorem sgW (s : List UInt8) (e : Int) : wire_Reader_Sig ⟨s, e⟩ = some ((sgQ s e).1, ⟨(sgQ s e).2.1, (sgQ s e).2.2⟩) := by
  have key : wire_Reader_Sig.j1 (((num4 (tk 4 s e).1 : Nat) : Int), ⟨(tk 4 s e).2.1, (tk 4 s e).2.2⟩) ⟨(sg1 s e).1, (sg1 s e).2⟩ = some ((sgQ s e).1, ⟨(sgQ s e).2.1, (sgQ s e).2.2⟩) := by
    unfold wire_Reader_Sig.j1
    refine bind_of (dgsW _ _) (bind_of (dgsW _ _) (bind_of (dgsW _ _) ?_))
    unfold sgQ sgD
    simp only
    generalize dgs (sg1 s e).1 (sg1 s e).2 = d1
    generalize dgs d1.2.1 d1.2.2 = d2
    generalize dgs d2.2.1 d2.2.2 = d3
    by_cases h : d3.2.2 = 0
    · rw [if_neg (by simp [h]), if_pos h]
    · rw [if_pos (by simp [h]), if_neg h]
  unfold wire_Reader_Sig
  refine bind_of (wordRd s e) ?_
  rw [← key]
  unfold sg1
  by_cases h : 2147483647 < num4 (tk 4 s e).1
  · rw [if_pos (by simp; omega), if_pos h]
    exact bind_of (flW 8 _ _) rfl
  · rw [if_neg (by simp; omega), if_neg h]
theorem sgR (s : List UInt8) (e : Int) (hs : s.length < 1000000) : ref03_Reader_Sig ⟨s, e⟩ = some ((sgQ s e).1, ⟨(sgQ s e).2.1, (sgQ s e).2.2⟩) := by
  have key : ref03_Reader_Sig.j1 (((num4 (tk 4 s e).1 : Nat) : Int), ⟨(tk 4 s e).2.1, (tk 4 s e).2.2⟩) ⟨(sg1 s e).1, (sg1 s e).2⟩ = some ((sgQ s e).1, ⟨(sgQ s e).2.1, (sgQ s e).2.2⟩) := by
    have r0 : (sg1 s e).1.length ≤ s.length := tk_rest 4 s e
    have r1 := dgs_rest (sg1 s e).1 (sg1 s e).2
    have r2 := dgs_rest (dgs (sg1 s e).1 (sg1 s e).2).2.1 (dgs (sg1 s e).1 (sg1 s e).2).2.2
    unfold ref03_Reader_Sig.j1
    refine bind_of (dgsR _ _ (by omega)) (bind_of (dgsR _ _ (by omega)) (bind_of (dgsR _ _ (by omega)) ?_))
    unfold sgQ sgD
    simp only
    generalize dgs (sg1 s e).1 (sg1 s e).2 = d1
    generalize dgs d1.2.1 d1.2.2 = d2
    generalize dgs d2.2.1 d2.2.2 = d3
    by_cases h : d3.2.2 = 0
    · rw [if_neg (by simp [h]), if_pos h]
    · rw [if_pos (by simp [h]), if_neg h]
  unfold ref03_Reader_Sig
  refine bind_of (numR s e) ?_
  rw [← key]
  unfold sg1
  by_cases h : 2147483647 < num4 (tk 4 s e).1
  · rw [if_pos (by simp; omega), if_pos h]
    exact bind_of (flR 8 _ _) rfl
  · rw [if_neg (by simp; omega), if_neg h]
def en (s : List UInt8) (e : Int) : Int := if e = 0 then (if s = [] then 0 else 4) else e
theorem enW (s : List UInt8) (e : Int) : wire_Reader_End ⟨s, e⟩ = some (en s e, ⟨s, e⟩) := by
  unfold wire_Reader_End wire_Reader_End.j1 en
  by_cases he : e = 0
  · rw [if_pos (by simp [he]), if_pos he]
    by_cases h : s = []
    · rw [if_neg (by simp [h]), if_pos h, he]
    · rw [if_pos (by simp [h]), if_neg h]
  · rw [if_neg (by simp [he]), if_neg he, if_neg (by simp)]
theorem enR (s : List UInt8) (e : Int) : ref03_Reader_End ⟨s, e⟩ = some (en s e, ⟨s, e⟩) := by
  unfold ref03_Reader_End ref03_Reader_End.j1 en
  by_cases he : e = 0
  · rw [if_pos (by simp [he]), if_pos he]
    by_cases h : s = []
    · rw [if_neg (by simp [h]), if_pos h, he]
    · rw [if_pos (by simp; exact List.length_pos_iff.2 h), if_neg h]
  · rw [if_neg (by simp [he]), if_neg he, if_neg (by simp)]
end Go.Proofs.YtnjkofmmpfehcaaDoorR
