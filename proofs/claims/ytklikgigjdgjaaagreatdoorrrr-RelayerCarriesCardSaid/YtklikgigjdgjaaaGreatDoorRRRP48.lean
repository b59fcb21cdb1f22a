/- Plain laws: P41a, P46, P47, P48, as one text. -/
import Derived.Test.YtklikgigjdgjaaaGreatDoorRRRP5a
import Derived.Test.YtklikgigjdgjaaaGreatDoorRRRP7
import Derived.Laws.BitsLemmas
namespace Go.Proofs.YtklikgigjdgjaaaGreatDoorRRR
open Go Go.RowKit Go.Proofs
section
set_option linter.unusedVariables false

def tk (n : Nat) (s : List UInt8) (e : Int) : List UInt8 × List UInt8 × Int := if e = 0 then (if s.length < n then ([], s, 3) else (s.take n, s.drop n, 0)) else ([], s, e)
theorem tkW (n : Nat) (s : List UInt8) (e : Int) : wire_Reader_take ⟨s, e⟩ (n : Int) = some ((tk n s e).1, ⟨(tk n s e).2.1, (tk n s e).2.2⟩) := by
  unfold wire_Reader_take tk
  by_cases he : e = 0
  · subst he
    rw [if_neg (by simp)]
    by_cases h : s.length < n
    · rw [if_pos (by simp; omega)]; simp [h]
    · rw [if_neg (by simp; omega), if_pos (by simp; omega), if_pos (by simp; omega)]; simp [h]
  · rw [if_pos (by simp [he])]; simp [he]
theorem tk_len (n : Nat) (s : List UInt8) (e : Int) : (tk n s e).1 = [] ∨ (tk n s e).1.length = n := by
  unfold tk
  split
  · split
    · exact .inl rfl
    · exact .inr (by simp; omega)
  · exact .inl rfl
def dg (l : List UInt8) : List UInt8 := if l = [] then List.replicate 32 0 else l
theorem dg_len (s : List UInt8) (e : Int) : (dg (tk 32 s e).1).length = 32 := by
  unfold dg
  rcases tk_len 32 s e with h | h
  · rw [if_pos h]; simp
  · rw [if_neg (by intro q; rw [q] at h; simp at h)]; exact h
theorem digW (s : List UInt8) (e : Int) : wire_Reader_Digest ⟨s, e⟩ = some (dg (tk 32 s e).1, ⟨(tk 32 s e).2.1, (tk 32 s e).2.2⟩) := by
  unfold wire_Reader_Digest
  refine bind_of (tkW 32 s e) ?_
  unfold dg
  rcases tk_len 32 s e with h | h
  · rw [h]; rfl
  · rw [if_neg (by intro q; rw [q] at h; simp at h)]
    show some ((List.replicate 32 0).take 0 ++ (tk 32 s e).1.take (min (tk 32 s e).1.length 32) ++ (List.replicate 32 0).drop (0 + (min (tk 32 s e).1.length 32)), _) = _
    rw [h]
    simp [h, List.take_of_length_le]
end

section
set_option linter.unusedVariables false

def vl (l : List UInt8) : Nat := l.foldl (fun a b => a * 256 + b.toNat) 0
theorem vl_snoc (l : List UInt8) (b : UInt8) : vl (l ++ [b]) = vl l * 256 + b.toNat := by simp [vl]
theorem vl_take (l : List UInt8) (i : Nat) (hi : i < l.length) : vl (l.take (i + 1)) = vl (l.take i) * 256 + (l[i]).toNat := by
  rw [List.take_succ_eq_append_getElem hi, vl_snoc]
theorem vl_lt : ∀ (n : Nat) (l : List UInt8), l.length = n → vl l < 256 ^ n
  | 0, l, h => by
    have : l = [] := List.length_eq_zero_iff.1 h
    subst this; simp [vl]
  | n + 1, l, h => by
    have h1 := vl_take l n (by omega)
    rw [List.take_of_length_le (by omega)] at h1
    have h2 := vl_lt n (l.take n) (by simp; omega)
    have h3 := (l[n]'(by omega)).toNat_lt
    rw [h1, Nat.pow_succ]
    omega
theorem pow7 {i : Nat} (h : i < 8) : 256 ^ i ≤ 72057594037927936 := by
  have : (256 : Nat) ^ i ≤ 256 ^ 7 := Nat.pow_le_pow_right (by decide) (by omega)
  simpa using this
theorem stepW8 (r1 : (List UInt8) × O_Rdr) (x i : Nat) (hx : x < 72057594037927936) (hi : i < r1.1.length) (hl : r1.1.length ≤ 100) :
    wire_Reader_number.b1 r1 (x : Int) (i : Int) = some (.cont (((x * 256 + (r1.1[i]).toNat : Nat) : Int), ((i + 1 : Nat) : Int))) := by
  have hb := (r1.1[i]).toNat_lt
  have e8 : shl .u64 (x : Int) 8 = IntKind.wrap .u64 ((x : Int) * 256) := rfl
  have e1 : ((i : Nat) : Int).toNat = i := by omega
  have e2 : r1.1.getD i default = r1.1[i] := by simp [List.getD, hi]
  unfold wire_Reader_number.b1
  rw [if_pos (by simp; omega), if_pos (by omega), e8, e1, e2, w64 (by omega)]
  generalize (r1.1[i]).toNat = b at hb
  rw [wu64 (by omega), wu64 (by omega), bits_join .u64 64 (by decide) (fun n h0 h1 => wu64 ⟨h0, by omega⟩) 8 ((x : Int) * 256) (b : Int) (by omega) (by omega) (by omega) (by omega) (by omega) (by omega)]
  rw [show ((x * 256 + b : Nat) : Int) = (x : Int) * 256 + b by omega]
  rfl
theorem numGW (n : Nat) (hn : n ≤ 8) (s : List UInt8) (e : Int) : wire_Reader_number ⟨s, e⟩ (n : Int) = some (((vl (tk n s e).1 : Nat) : Int), ⟨(tk n s e).2.1, (tk n s e).2.2⟩) := by
  unfold wire_Reader_number
  refine bind_of (tkW n s e) ?_
  have hL : (tk n s e).1.length ≤ 8 := by
    rcases tk_len n s e with h | h
    · rw [h]; simp
    · omega
  generalize hr : (((tk n s e).1, (⟨(tk n s e).2.1, (tk n s e).2.2⟩ : O_Rdr)) : (List UInt8) × O_Rdr) = r1
  have h1 : (tk n s e).1 = r1.1 := by rw [← hr]
  have h2 : (⟨(tk n s e).2.1, (tk n s e).2.2⟩ : O_Rdr) = r1.2 := by rw [← hr]
  rw [h1] at hL
  rw [h1, h2]
  obtain ⟨c, h3, h4⟩ := loop_ok (body := fun s : Int × Int => wire_Reader_number.b1 r1 s.1 s.2) (fun s => ∃ i : Nat, i ≤ r1.1.length ∧ s = (((vl (r1.1.take i) : Nat) : Int), (i : Int)))
      (fun c => match c with | .next s => s.1 = ((vl r1.1 : Nat) : Int) | .ret r => False) (fun s => (r1.1.length - s.2).toNat)
      (fun s ⟨i, hi, hs⟩ => by
        subst hs
        by_cases q : i < r1.1.length
        · have hx : vl (r1.1.take i) < 72057594037927936 := Nat.lt_of_lt_of_le (vl_lt i _ (by simp; omega)) (pow7 (by omega))
          refine .inl ⟨_, stepW8 r1 _ i hx q (by omega), ⟨i + 1, by omega, by rw [vl_take r1.1 i q]⟩, by simp; omega⟩
        · have : i = r1.1.length := by omega
          subst this
          refine .inr (.inl ⟨(((vl r1.1 : Nat) : Int), (r1.1.length : Int)), ?_, rfl⟩)
          show wire_Reader_number.b1 r1 _ (r1.1.length : Int) = _
          unfold wire_Reader_number.b1
          rw [if_neg (by simp), List.take_length]) (((r1.1.length : Int) - 0 : Int).toNat + 2) (0, 0) ⟨0, by omega, by simp [vl]⟩ (by simp)
  cases c with
  | ret r => exact h4.elim
  | next s =>
    have h4 : s.1 = ((vl r1.1 : Nat) : Int) := h4
    refine bind_next h3 ?_
    rw [← h4]
theorem vl8 {n : Nat} (hn : n ≤ 8) (s : List UInt8) (e : Int) : vl (tk n s e).1 < 256 ^ n := by
  rcases tk_len n s e with h | h
  · rw [h]; exact Nat.pow_pos (by decide)
  · exact vl_lt n _ h
end

section
set_option linter.unusedVariables false

def lng (n : Int) : List UInt8 := [u8of (IntKind.wrap .u8 (shr .u64 n 56)), u8of (IntKind.wrap .u8 (shr .u64 n 48)), u8of (IntKind.wrap .u8 (shr .u64 n 40)), u8of (IntKind.wrap .u8 (shr .u64 n 32)), u8of (IntKind.wrap .u8 (shr .u64 n 24)), u8of (IntKind.wrap .u8 (shr .u64 n 16)), u8of (IntKind.wrap .u8 (shr .u64 n 8)), u8of (IntKind.wrap .u8 (shr .u64 n 0))]
theorem big8 (n : Int) : wire_big n 8 = some (lng n) := rfl
theorem long_eq (n : Int) : wire_Long n = some (lng n) := by
  unfold wire_Long
  rw [big8]
  rfl
theorem vl_lng {x : Int} (h : 0 ≤ x ∧ x < 18446744073709551616) : ((vl (lng x) : Nat) : Int) = x := by
  obtain ⟨n, rfl⟩ := Int.eq_ofNat_of_zero_le h.1
  have e7 := byteOf (n := n) (q := 72057594037927936) (k := 56) (by decide) (by decide)
  have e6 := byteOf (n := n) (q := 281474976710656) (k := 48) (by decide) (by decide)
  have e5 := byteOf (n := n) (q := 1099511627776) (k := 40) (by decide) (by decide)
  have e4 := byteOf (n := n) (q := 4294967296) (k := 32) (by decide) (by decide)
  have e3 := byteOf (n := n) (q := 16777216) (k := 24) (by decide) (by decide)
  have e2 := byteOf (n := n) (q := 65536) (k := 16) (by decide) (by decide)
  have e1 := byteOf (n := n) (q := 256) (k := 8) (by decide) (by decide)
  have e0 := byteOf (n := n) (q := 1) (k := 0) (by decide) (by decide)
  simp only [vl, lng, List.foldl_cons, List.foldl_nil]
  rw [e7, e6, e5, e4, e3, e2, e1, e0]
  omega
theorem vl_wrd {x : Int} (h : 0 ≤ x ∧ x < 4294967296) : ((vl (wrd x) : Nat) : Int) = x := by
  obtain ⟨n, rfl⟩ := Int.eq_ofNat_of_zero_le h.1
  have e : wrd (n : Int) = hd4 (n : Int) := by unfold wrd; rw [wu32 h]
  have e3 := byteOf (n := n) (q := 16777216) (k := 24) (by decide) (by decide)
  have e2 := byteOf (n := n) (q := 65536) (k := 16) (by decide) (by decide)
  have e1 := byteOf (n := n) (q := 256) (k := 8) (by decide) (by decide)
  have e0 := byteOf (n := n) (q := 1) (k := 0) (by decide) (by decide)
  rw [e]
  simp only [vl, hd4, List.foldl_cons, List.foldl_nil]
  rw [e3, e2, e1, e0]
  omega
theorem wu8 {x : Int} (h : 0 ≤ x ∧ x < 256) : IntKind.wrap .u8 x = x := by
  simp only [IntKind.wrap, IntKind.bits, IntKind.signed]
  simp
  omega
theorem vl_by1 {x : Int} (h : 0 ≤ x ∧ x < 256) : ((vl [by1 x] : Nat) : Int) = x := by
  simp only [vl, List.foldl_cons, List.foldl_nil, by1]
  rw [wu8 h]
  simp only [u8of]
  simp
  omega
def NtOk (n : S_notes_Note) : Prop := (0 ≤ n.f_Kind ∧ n.f_Kind < 256) ∧ (0 ≤ n.f_Home ∧ n.f_Home < 4294967296) ∧ (0 ≤ n.f_Next ∧ n.f_Next < 18446744073709551616) ∧ n.f_Old.length = 32 ∧ n.f_New.length = 32 ∧ (0 ≤ n.f_Sent ∧ n.f_Sent < 18446744073709551616)
def ntB (n : S_notes_Note) : List UInt8 := [by1 n.f_Kind] ++ wrd n.f_Home ++ lng n.f_Next ++ n.f_Old ++ n.f_New ++ lng n.f_Sent
theorem wrd4 (i : Int) : (wrd i).length = 4 := by simp [wrd, hd4]
theorem lng8 (i : Int) : (lng i).length = 8 := by simp [lng]
theorem ntB_len {n : S_notes_Note} (h : NtOk n) : (ntB n).length = 85 := by
  obtain ⟨_, _, _, h1, h2, _⟩ := h
  simp only [ntB, List.length_append, wrd4, lng8, h1, h2, List.length_cons, List.length_nil]
noncomputable def noteB (n : S_notes_Note) : List UInt8 := ntB n ++ H (inp 200 [ntB n])
theorem ntSmall {n : S_notes_Note} (h : NtOk n) : Small [ntB n] := ⟨fun p hp => by rw [List.mem_singleton.1 hp, ntB_len h]; omega, by simp⟩
theorem plain_eq {n : S_notes_Note} (h : NtOk n) : notes_plain n = some (ntB n) := by
  obtain ⟨k, hh, hn, h1, h2, hs⟩ := h
  unfold notes_plain
  refine bind_of (x := [by1 n.f_Kind]) (by have := byte_eq n.f_Kind; rwa [wu8 k] at this) ?_
  refine bind_of (x := wrd n.f_Home) (by have := word_text n.f_Home; rwa [wu32 hh] at this) ?_
  rw [if_pos (by simp only [wrd4, List.length_cons, List.length_nil, mxl]; omega)]
  refine bind_of (long_eq _) ?_
  rw [if_pos (by simp only [List.length_append, wrd4, lng8, List.length_cons, List.length_nil, mxl]; omega)]
  refine bind_of (dig_eq h1) ?_
  rw [if_pos (by simp only [List.length_append, wrd4, lng8, h1, List.length_cons, List.length_nil, mxl]; omega)]
  refine bind_of (dig_eq h2) ?_
  rw [if_pos (by simp only [List.length_append, wrd4, lng8, h1, h2, List.length_cons, List.length_nil, mxl]; omega)]
  refine bind_of (long_eq _) ?_
  rw [if_pos (by simp only [List.length_append, wrd4, lng8, h1, h2, List.length_cons, List.length_nil, mxl]; omega)]
  rfl
theorem noteB_eq {n : S_notes_Note} (h : NtOk n) : notes_Bytes n = some (noteB n) := by
  have hl := ((ntSmall h).H 200).2
  obtain ⟨L, h1, h2⟩ := dOf none 200 (ntSmall h)
  unfold notes_Bytes
  refine bind_of (plain_eq h) (bind_of h1 (bind_of (dig_eq hl) ?_))
  rw [if_pos (by simp only [ntB_len h, hl, mxl]; omega)]
  rfl
def nx (n : Nat) (p : List UInt8 × Int) : List UInt8 × Int := (tk n p.1 p.2).2
def gt (n : Nat) (p : List UInt8 × Int) : List UInt8 := (tk n p.1 p.2).1
def rdN (s : List UInt8) : S_notes_Note := ⟨(vl (gt 1 (s, 0)) : Nat), (vl (gt 4 (nx 1 (s, 0))) : Nat), (vl (gt 8 (nx 4 (nx 1 (s, 0)))) : Nat), dg (gt 32 (nx 8 (nx 4 (nx 1 (s, 0))))), dg (gt 32 (nx 32 (nx 8 (nx 4 (nx 1 (s, 0)))))), (vl (gt 8 (nx 32 (nx 32 (nx 8 (nx 4 (nx 1 (s, 0))))))) : Nat)⟩
def rdE (s : List UInt8) : List UInt8 × Int := nx 32 (nx 8 (nx 32 (nx 32 (nx 8 (nx 4 (nx 1 (s, 0)))))))
def enN (p : List UInt8 × Int) : Int := if p.2 = 0 then (if p.1 = [] then 0 else 4) else p.2
theorem enNW (s : List UInt8) (e : Int) : wire_Reader_End ⟨s, e⟩ = some (enN (s, e), ⟨s, e⟩) := by
  unfold wire_Reader_End wire_Reader_End.j1 enN
  by_cases he : e = 0
  · rw [if_pos (by simp [he]), if_pos he]
    by_cases h : s = []
    · rw [if_neg (by simp [h]), if_pos h, he]
    · rw [if_pos (by simp [h]), if_neg h]
  · rw [if_neg (by simp [he]), if_neg he, if_neg (by simp)]
theorem rdN_ok (s : List UInt8) : NtOk (rdN s) := by
  have h1 := vl8 (n := 1) (by omega) s 0
  have h2 := vl8 (n := 4) (by omega) (nx 1 (s, 0)).1 (nx 1 (s, 0)).2
  have h3 := vl8 (n := 8) (by omega) (nx 4 (nx 1 (s, 0))).1 (nx 4 (nx 1 (s, 0))).2
  have h4 := vl8 (n := 8) (by omega) (nx 32 (nx 32 (nx 8 (nx 4 (nx 1 (s, 0)))))).1 (nx 32 (nx 32 (nx 8 (nx 4 (nx 1 (s, 0)))))).2
  refine ⟨⟨?_, ?_⟩, ⟨?_, ?_⟩, ⟨?_, ?_⟩, dg_len _ _, dg_len _ _, ⟨?_, ?_⟩⟩
  · exact Int.natCast_nonneg _
  · show ((vl (tk 1 s 0).1 : Nat) : Int) < 256
    omega
  · exact Int.natCast_nonneg _
  · show ((vl (tk 4 (nx 1 (s, 0)).1 (nx 1 (s, 0)).2).1 : Nat) : Int) < 4294967296
    omega
  · exact Int.natCast_nonneg _
  · show ((vl (tk 8 (nx 4 (nx 1 (s, 0))).1 (nx 4 (nx 1 (s, 0))).2).1 : Nat) : Int) < 18446744073709551616
    omega
  · exact Int.natCast_nonneg _
  · show ((vl (tk 8 (nx 32 (nx 32 (nx 8 (nx 4 (nx 1 (s, 0)))))).1 (nx 32 (nx 32 (nx 8 (nx 4 (nx 1 (s, 0)))))).2).1 : Nat) : Int) < 18446744073709551616
    omega
theorem byteRd (p : List UInt8 × Int) : wire_Reader_Byte ⟨p.1, p.2⟩ = some (((vl (gt 1 p) : Nat) : Int), ⟨(nx 1 p).1, (nx 1 p).2⟩) := by
  have h := vl8 (n := 1) (by omega) p.1 p.2
  unfold wire_Reader_Byte
  refine bind_of (numGW 1 (by omega) p.1 p.2) ?_
  rw [wu8 (by omega)]
  rfl
theorem wordRd8 (p : List UInt8 × Int) : wire_Reader_Word ⟨p.1, p.2⟩ = some (((vl (gt 4 p) : Nat) : Int), ⟨(nx 4 p).1, (nx 4 p).2⟩) := by
  have h := vl8 (n := 4) (by omega) p.1 p.2
  unfold wire_Reader_Word
  refine bind_of (numGW 4 (by omega) p.1 p.2) ?_
  rw [wu32 (by omega)]
  rfl
theorem longRd (p : List UInt8 × Int) : wire_Reader_Long ⟨p.1, p.2⟩ = some (((vl (gt 8 p) : Nat) : Int), ⟨(nx 8 p).1, (nx 8 p).2⟩) := by
  unfold wire_Reader_Long
  exact bind_of (numGW 8 (by omega) p.1 p.2) rfl
theorem digRd (p : List UInt8 × Int) : wire_Reader_Digest ⟨p.1, p.2⟩ = some (dg (gt 32 p), ⟨(nx 32 p).1, (nx 32 p).2⟩) := digW p.1 p.2
theorem read_eq (s : List UInt8) : notes_read s = some (rdN s, decide (enN (rdE s) = 0) && decide (noteB (rdN s) = s)) := by
  unfold notes_read
  refine bind_of (x := (⟨s, 0⟩ : O_Rdr)) rfl (bind_of (byteRd (s, 0)) (bind_of (wordRd8 _) (bind_of (longRd _) (bind_of (digRd _) (bind_of (digRd _) (bind_of (longRd _) (bind_of (digRd _) (bind_of (enNW _ _) ?_))))))))
  by_cases h : enN (rdE s) = 0
  · rw [if_pos (by show decide (enN (rdE s) = 0) = true; simp [h])]
    refine bind_of (noteB_eq (n := rdN s) (rdN_ok s)) ?_
    rw [h]
    rfl
  · rw [if_neg (by show ¬ decide (enN (rdE s) = 0) = true; simp [h])]
    unfold notes_read.j1
    rw [decide_eq_false h, Bool.false_and]
    rfl
noncomputable def noteV (disk : List UInt8) (k home : Int) : S_notes_Note :=
  if (enN (rdE disk) = 0 ∧ noteB (rdN disk) = disk) ∧ (rdN disk).f_Kind = k ∧ (rdN disk).f_Home = home then rdN disk else ⟨k, home, 0, List.replicate 32 0, List.replicate 32 0, 0⟩
theorem noteV_ok {k home : Int} (disk : List UInt8) (hk : 0 ≤ k ∧ k < 256) (hh : 0 ≤ home ∧ home < 4294967296) : NtOk (noteV disk k home) := by
  unfold noteV
  split
  · exact rdN_ok disk
  · exact ⟨hk, hh, ⟨by simp only; omega, by simp only; omega⟩, by simp, by simp, ⟨by simp only; omega, by simp only; omega⟩⟩
theorem noteV_kh {k home : Int} (disk : List UInt8) : (noteV disk k home).f_Kind = k ∧ (noteV disk k home).f_Home = home := by
  unfold noteV
  split
  · rename_i h; exact h.2
  · exact ⟨rfl, rfl⟩
theorem Read_eq (disk : List UInt8) (k home : Int) : notes_Read disk k home = some (noteV disk k home) := by
  unfold notes_Read
  refine bind_of (read_eq disk) ?_
  unfold notes_Read.j1 noteV
  by_cases h : enN (rdE disk) = 0 ∧ noteB (rdN disk) = disk
  · rw [if_neg (by simp [h.1, h.2])]
    by_cases h1 : (rdN disk).f_Kind = k
    · rw [if_neg (by simp [h1])]
      by_cases h2 : (rdN disk).f_Home = home
      · rw [if_neg (by simp [h2]), if_pos ⟨h, h1, h2⟩]
      · rw [if_pos (by simp [h2]), if_neg (fun q => h2 q.2.2)]
    · rw [if_pos (by simp [h1]), if_pos rfl, if_neg (fun q => h1 q.2.1)]
  · have hb : (decide (enN (rdE disk) = 0) && decide (noteB (rdN disk) = disk)) = false := by
      by_cases q : enN (rdE disk) = 0
      · rw [decide_eq_false (fun w => h ⟨q, w⟩), Bool.and_false]
      · rw [decide_eq_false q, Bool.false_and]
    rw [if_pos (by rw [hb]; rfl), if_pos rfl, if_neg (fun q => h q.1)]
theorem tkApp {l : List UInt8} {n : Nat} (h : l.length = n) (r : List UInt8) : gt n (l ++ r, 0) = l ∧ nx n (l ++ r, 0) = (r, 0) := by
  have : tk n (l ++ r) 0 = (l, r, 0) := by
    unfold tk
    rw [if_pos rfl, if_neg (by simp; omega)]
    subst h
    simp
  exact ⟨congrArg (fun q => q.1) this, congrArg (fun q => q.2) this⟩
theorem dgOf {l : List UInt8} (h : l.length = 32) : dg l = l := by
  unfold dg
  rw [if_neg]
  intro q
  rw [q] at h
  simp at h
/-- What is noted is read again. -/
theorem rdN_noteB {n : S_notes_Note} (h : NtOk n) : rdN (noteB n) = n ∧ enN (rdE (noteB n)) = 0 := by
  have hl := ((ntSmall h).H 200).2
  obtain ⟨k, hh, hn, h1, h2, hs⟩ := h
  have e : noteB n = [by1 n.f_Kind] ++ (wrd n.f_Home ++ (lng n.f_Next ++ (n.f_Old ++ (n.f_New ++ (lng n.f_Sent ++ (H (inp 200 [ntB n]) ++ [])))))) := by simp [noteB, ntB]
  have a1 := tkApp (l := [by1 n.f_Kind]) (n := 1) rfl (wrd n.f_Home ++ (lng n.f_Next ++ (n.f_Old ++ (n.f_New ++ (lng n.f_Sent ++ (H (inp 200 [ntB n]) ++ []))))))
  have a2 := tkApp (wrd4 n.f_Home) (lng n.f_Next ++ (n.f_Old ++ (n.f_New ++ (lng n.f_Sent ++ (H (inp 200 [ntB n]) ++ [])))))
  have a3 := tkApp (lng8 n.f_Next) (n.f_Old ++ (n.f_New ++ (lng n.f_Sent ++ (H (inp 200 [ntB n]) ++ []))))
  have a4 := tkApp h1 (n.f_New ++ (lng n.f_Sent ++ (H (inp 200 [ntB n]) ++ [])))
  have a5 := tkApp h2 (lng n.f_Sent ++ (H (inp 200 [ntB n]) ++ []))
  have a6 := tkApp (lng8 n.f_Sent) (H (inp 200 [ntB n]) ++ [])
  have a7 := tkApp hl []
  constructor
  · unfold rdN
    rw [e, a1.1, a1.2, a2.1, a2.2, a3.1, a3.2, a4.1, a4.2, a5.1, a5.2, a6.1, vl_by1 k, vl_wrd hh, vl_lng hn, vl_lng hs, dgOf h1, dgOf h2]
  · unfold rdE
    rw [e, a1.2, a2.2, a3.2, a4.2, a5.2, a6.2, a7.2]
    rfl
theorem noteV_noteB {n : S_notes_Note} (h : NtOk n) : noteV (noteB n) n.f_Kind n.f_Home = n := by
  obtain ⟨h1, h2⟩ := rdN_noteB h
  unfold noteV
  rw [h1, if_pos ⟨⟨h2, rfl⟩, rfl, rfl⟩]
/- The first place of a kind. -/
def ff (P : Nat → Bool) : Nat → Int
  | 0 => -1
  | i + 1 => if 0 ≤ ff P i then ff P i else if P i = true then (i : Int) else -1
theorem ff_succ (P : Nat → Bool) (i : Nat) : ff P (i + 1) = if 0 ≤ ff P i then ff P i else if P i = true then (i : Int) else -1 := rfl
theorem ff_range (P : Nat → Bool) : ∀ n, -1 ≤ ff P n ∧ ff P n < n
  | 0 => by simp [ff]
  | n + 1 => by
    have := ff_range P n
    unfold ff
    split
    · omega
    · split <;> omega
theorem ff_stay (P : Nat → Bool) (i : Nat) (h : 0 ≤ ff P i) : ∀ k, ff P (i + k) = ff P i
  | 0 => rfl
  | k + 1 => by
    show ff P (i + k + 1) = _
    rw [ff_succ, ff_stay P i h k, if_pos h]
theorem ff_shift (P : Nat → Bool) (n : Nat) : ∀ m, ff (fun i => P i && decide (n ≤ i)) (n + m) = if 0 ≤ ff (fun i => P (n + i)) m then (n : Int) + ff (fun i => P (n + i)) m else -1
  | 0 => by
    have : ∀ k, k ≤ n → ff (fun i => P i && decide (n ≤ i)) k = -1 := by
      intro k
      induction k with
      | zero => intro _; rfl
      | succ k ih =>
        intro hk
        unfold ff
        rw [ih (by omega), if_neg (by decide), if_neg (by simp; intro _; omega)]
    rw [Nat.add_zero, this n (Nat.le_refl n)]
    simp [ff]
  | m + 1 => by
    have ih := ff_shift P n m
    show ff _ (n + m + 1) = _
    unfold ff
    rw [ih]
    by_cases h : 0 ≤ ff (fun i => P (n + i)) m
    · rw [if_pos h, if_pos (by omega), if_pos h, if_pos h]
    · rw [if_neg h, if_neg (by decide), if_neg h]
      by_cases q : P (n + m) = true
      · rw [if_pos (by simp [q]), if_pos q, if_pos (by omega)]; omega
      · rw [if_neg (by simp [q]), if_neg q, if_neg (by decide)]
def fitP (c : S_api_Replica) (u : S_api_Update) : Bool := decide (u.f_Old = c.f_Committed) && !decide (u.f_New = c.f_Committed)
theorem fit1 (u : S_api_Update) (c : S_api_Replica) : relayer_Fits_1 u c = some (fitP c u) := by
  unfold relayer_Fits_1 relayer_Fits_1.j1 fitP
  by_cases h : u.f_Old = c.f_Committed
  · rw [if_pos (by simp [h])]; simp [h]
  · rw [if_neg (by simp [h])]; simp [h]
theorem index_eq (l : List S_api_Update) (g : S_api_Update → Option Bool) (p : S_api_Update → Bool) (hg : ∀ u, g u = some (p u)) (hl : l.length < 1000000) : slices_IndexFunc_api_Update l g = some (ff (fun i => p (l.getD i default)) l.length) := by
  unfold slices_IndexFunc_api_Update
  obtain ⟨c, h1, h2⟩ := loop_ok (body := fun s : Int => slices_IndexFunc_api_Update.b1 l g s) (fun s => ∃ i : Nat, i ≤ l.length ∧ s = (i : Int) ∧ ff (fun i => p (l.getD i default)) i = -1)
      (fun c => match c with | .next s => ff (fun i => p (l.getD i default)) l.length = -1 | .ret r => ff (fun i => p (l.getD i default)) l.length = r) (fun s => (l.length - s).toNat)
      (fun s ⟨i, hi, hs, hf⟩ => by
        subst hs
        have e1 : ((i : Nat) : Int).toNat = i := by omega
        by_cases q : i < l.length
        · by_cases w : p (l.getD i default) = true
          · refine .inr (.inr ⟨(i : Int), ?_, ?_⟩)
            · show slices_IndexFunc_api_Update.b1 l g (i : Int) = _
              unfold slices_IndexFunc_api_Update.b1
              rw [if_pos (by simp; omega), if_pos (by omega), e1]
              refine bind_of (hg _) ?_
              rw [if_pos w]
            · have e2 : ff (fun i => p (l.getD i default)) (i + 1) = (i : Int) := by
                unfold ff
                rw [hf, if_neg (by decide), if_pos w]
              have := ff_stay (fun i => p (l.getD i default)) (i + 1) (by rw [e2]; omega) (l.length - (i + 1))
              rw [show i + 1 + (l.length - (i + 1)) = l.length by omega, e2] at this
              exact this
          · refine .inl ⟨((i + 1 : Nat) : Int), ?_, ⟨i + 1, by omega, rfl, ?_⟩, by simp; omega⟩
            · show slices_IndexFunc_api_Update.b1 l g (i : Int) = _
              unfold slices_IndexFunc_api_Update.b1
              rw [if_pos (by simp; omega), if_pos (by omega), e1]
              refine bind_of (hg _) ?_
              rw [if_neg w, w64 (by omega)]
              rfl
            · unfold ff
              rw [hf, if_neg (by decide), if_neg w]
        · have : i = l.length := by omega
          subst this
          refine .inr (.inl ⟨(l.length : Int), ?_, hf⟩)
          show slices_IndexFunc_api_Update.b1 l g (l.length : Int) = _
          unfold slices_IndexFunc_api_Update.b1
          rw [if_neg (by simp)]) (((l.length : Int) - 0 : Int).toNat + 2) 0 ⟨0, by omega, rfl, rfl⟩ (by simp)
  cases c with
  | ret r =>
    have h2 : ff (fun i => p (l.getD i default)) l.length = r := h2
    rw [h2]
    exact bind_of h1 rfl
  | next s =>
    have h2 : ff (fun i => p (l.getD i default)) l.length = -1 := h2
    rw [h2]
    exact bind_next h1 rfl
/-- Which update follows: the first one at or behind Next, or else the first one. -/
def fitsV (N : Nat) (c : S_api_Replica) (l : List S_api_Update) : Int :=
  if 0 ≤ ff (fun i => fitP c (l.getD i default) && decide (N ≤ i)) l.length then ff (fun i => fitP c (l.getD i default) && decide (N ≤ i)) l.length else ff (fun i => fitP c (l.getD i default)) l.length
theorem fitsV_range (N : Nat) (c : S_api_Replica) (l : List S_api_Update) : -1 ≤ fitsV N c l ∧ fitsV N c l < l.length := by
  unfold fitsV
  split
  · exact ff_range _ _
  · exact ff_range _ _
theorem fits_eq (home : Int) (disk : List UInt8) (l : List S_api_Update) (c : S_api_Replica) (hl : l.length ≤ 1000) (hh : 0 ≤ home ∧ home < 4294967296) : relayer_Fits ⟨home, disk⟩ l c = some (fitsV (noteV disk 2 home).f_Next.toNat c l) := by
  obtain ⟨_, _, hn, _⟩ := noteV_ok disk (k := 2) (by omega) hh
  have hi := index_eq l _ (fitP c) (fun u => fit1 u c) (by omega)
  have hj : relayer_Fits.j1 l c = some (ff (fun i => fitP c (l.getD i default)) l.length) := by
    unfold relayer_Fits.j1
    exact bind_of hi rfl
  unfold relayer_Fits
  refine bind_of (x := noteV disk 2 home) (by unfold relayer_Note; exact bind_of (Read_eq disk 2 home) rfl) ?_
  generalize (noteV disk 2 home).f_Next = N at hn
  obtain ⟨n, rfl⟩ := Int.eq_ofNat_of_zero_le hn.1
  rw [wu64 (by omega)]
  have e1 : ((n : Nat) : Int).toNat = n := by omega
  rw [e1]
  unfold fitsV
  by_cases h : n < l.length
  · rw [if_pos (by simp; omega), if_pos (by omega)]
    have e2 : (l.take (l.length : Int).toNat).drop (Int.ofNat n).toNat = l.drop n := by
      show (l.take (l.length : Int).toNat).drop n = l.drop n
      simp
    have hk := index_eq (l.drop n) _ (fitP c) (fun u => fit1 u c) (by simp; omega)
    have e3 : (fun i => fitP c ((l.drop n).getD i default)) = (fun i => fitP c (l.getD (n + i) default)) := by
      funext i
      simp [List.getD, List.getElem?_drop]
    rw [e3] at hk
    have e4 : (l.drop n).length = l.length - n := by simp
    rw [e4] at hk
    have hs := ff_shift (fun i => fitP c (l.getD i default)) n (l.length - n)
    rw [show n + (l.length - n) = l.length by omega] at hs
    have hr := ff_range (fun i => fitP c (l.getD (n + i) default)) (l.length - n)
    refine bind_of (x := ff (fun i => fitP c (l.getD (n + i) default)) (l.length - n)) (by rw [← hk]; exact congrArg (fun q => slices_IndexFunc_api_Update q _) e2) ?_
    rw [hs]
    by_cases q : 0 ≤ ff (fun i => fitP c (l.getD (n + i) default)) (l.length - n)
    · rw [if_pos (decide_eq_true q), if_pos q, if_pos (by omega), w64 (x := (n : Int)) (by omega), w64 (by omega)]
    · rw [if_neg (by rw [decide_eq_false q]; decide), if_neg q, if_neg (by decide)]
      exact hj
  · rw [if_neg (by simp; omega)]
    have e5 : ff (fun i => fitP c (l.getD i default) && decide (n ≤ i)) l.length = -1 := by
      have : ∀ k, k ≤ n → ff (fun i => fitP c (l.getD i default) && decide (n ≤ i)) k = -1 := by
        intro k
        induction k with
        | zero => intro _; rfl
        | succ k ih =>
          intro hk
          unfold ff
          rw [ih (by omega), if_neg (by decide), if_neg (by simp; intro _; omega)]
      exact this _ (by omega)
    rw [e5, if_neg (by decide)]
    exact hj
end

section
set_option linter.unusedVariables false

noncomputable def fitOf (home : Int) (disk : List UInt8) (l : List S_api_Update) (c : S_api_Replica) : Int := fitsV (noteV disk 2 home).f_Next.toNat c l
/-- What a step writes down. -/
noncomputable def noteN (home : Int) (disk : List UInt8) (l : List S_api_Update) (i : Int) : S_notes_Note :=
  ⟨2, home, i, (l.getD i.toNat default).f_Old, (l.getD i.toNat default).f_New, min (if (noteV disk 2 home).f_New = (l.getD i.toNat default).f_New then (noteV disk 2 home).f_Sent else 0) 999999 + 1⟩
def stopped (c : S_api_Replica) (i cut : Int) : Prop := c.f_Failed = true ∨ c.f_Cut = true ∨ i < 0 ∨ cut = 0
theorem step_stop (home : Int) (disk : List UInt8) (l : List S_api_Update) (c : S_api_Replica) (cut : Int) (hl : l.length ≤ 1000) (hh : 0 ≤ home ∧ home < 4294967296) (h : stopped c (fitOf home disk l c) cut) : relayer_Step ⟨home, disk⟩ l c cut = some (⟨home, disk⟩, []) := by
  have hj : relayer_Step.j1 ⟨home, disk⟩ l cut (fitOf home disk l c) true = some (⟨home, disk⟩, []) := by
    unfold relayer_Step.j1
    rw [if_pos rfl]
  unfold relayer_Step
  refine bind_of (fits_eq home disk l c hl hh) ?_
  show (if c.f_Failed = true then relayer_Step.j1 ⟨home, disk⟩ l cut (fitOf home disk l c) true else (if c.f_Cut = true then relayer_Step.j1 ⟨home, disk⟩ l cut (fitOf home disk l c) true else (if (decide (fitOf home disk l c < (0 : Int))) = true then relayer_Step.j1 ⟨home, disk⟩ l cut (fitOf home disk l c) true else relayer_Step.j1 ⟨home, disk⟩ l cut (fitOf home disk l c) (decide (cut = (0 : Int)))))) = _
  by_cases h1 : c.f_Failed = true
  · rw [if_pos h1]; exact hj
  · rw [if_neg h1]
    by_cases h2 : c.f_Cut = true
    · rw [if_pos h2]; exact hj
    · rw [if_neg h2]
      by_cases h3 : fitOf home disk l c < 0
      · rw [if_pos (decide_eq_true h3)]; exact hj
      · rw [if_neg (by rw [decide_eq_false h3]; decide)]
        rcases h with h | h | h | h
        · exact absurd h h1
        · exact absurd h h2
        · exact absurd h h3
        · rw [decide_eq_true h]; exact hj
theorem clone_eq (l : List (List UInt8)) (h : l.length ≤ 4000000000000) : slices_Clone_api_Digest l = some l := by
  unfold slices_Clone_api_Digest
  rw [if_pos (by omega)]
theorem noteN_ok {home : Int} {disk : List UInt8} {l : List S_api_Update} {i : Int} (hh : 0 ≤ home ∧ home < 4294967296) (hi : 0 ≤ i ∧ i < l.length) (hl : l.length ≤ 1000) (h32 : ∀ u ∈ l, u.f_Old.length = 32 ∧ u.f_New.length = 32) : NtOk (noteN home disk l i) := by
  obtain ⟨_, _, _, _, _, hs⟩ := noteV_ok disk (k := 2) (by omega) hh
  obtain ⟨n, rfl⟩ := Int.eq_ofNat_of_zero_le hi.1
  have e1 : ((n : Nat) : Int).toNat = n := by omega
  have e2 : l.getD n default = l[n]'(by omega) := by simp [List.getD, show n < l.length by omega]
  have hu := h32 (l[n]'(by omega)) (List.getElem_mem _)
  refine ⟨⟨by simp only [noteN]; omega, by simp only [noteN]; omega⟩, hh, ⟨by simp only [noteN]; omega, by simp only [noteN]; omega⟩, ?_, ?_, ⟨?_, ?_⟩⟩
  · simp only [noteN, e1, e2]; exact hu.1
  · simp only [noteN, e1, e2]; exact hu.2
  · simp only [noteN]; split <;> omega
  · simp only [noteN]; split <;> omega
theorem step_go (home : Int) (disk : List UInt8) (l : List S_api_Update) (c : S_api_Replica) (cut : Int) (hl : l.length ≤ 1000) (hh : 0 ≤ home ∧ home < 4294967296) (h32 : ∀ u ∈ l, u.f_Old.length = 32 ∧ u.f_New.length = 32)
    (hsm : ∀ u ∈ l, u.f_Sig.f_Parts.length ≤ 4000000000000 ∧ u.f_Sig.f_Others.length ≤ 4000000000000 ∧ u.f_Sig.f_Path.length ≤ 4000000000000) (h : ¬ stopped c (fitOf home disk l c) cut) :
    relayer_Step ⟨home, disk⟩ l c cut = some (⟨home, noteB (noteN home disk l (fitOf home disk l c))⟩, if cut = 1 then [] else [l.getD (fitOf home disk l c).toNat default]) := by
  have hr : -1 ≤ fitOf home disk l c ∧ fitOf home disk l c < l.length := fitsV_range _ _ _
  obtain ⟨_, _, _, _, _, hs⟩ := noteV_ok disk (k := 2) (by omega) hh
  have hkh := noteV_kh disk (k := 2) (home := home)
  unfold stopped at h
  have h1 : ¬ c.f_Failed = true := fun q => h (.inl q)
  have h2 : ¬ c.f_Cut = true := fun q => h (.inr (.inl q))
  have h3 : ¬ fitOf home disk l c < 0 := fun q => h (.inr (.inr (.inl q)))
  have h4 : ¬ cut = 0 := fun q => h (.inr (.inr (.inr q)))
  have hN := noteN_ok (disk := disk) hh ⟨by omega, hr.2⟩ hl h32
  unfold relayer_Step
  refine bind_of (fits_eq home disk l c hl hh) ?_
  show (if c.f_Failed = true then relayer_Step.j1 ⟨home, disk⟩ l cut (fitOf home disk l c) true else (if c.f_Cut = true then relayer_Step.j1 ⟨home, disk⟩ l cut (fitOf home disk l c) true else (if (decide (fitOf home disk l c < (0 : Int))) = true then relayer_Step.j1 ⟨home, disk⟩ l cut (fitOf home disk l c) true else relayer_Step.j1 ⟨home, disk⟩ l cut (fitOf home disk l c) (decide (cut = (0 : Int)))))) = _
  rw [if_neg h1, if_neg h2, if_neg (by rw [decide_eq_false h3]; decide), decide_eq_false h4]
  generalize fitOf home disk l c = i at hr h3 hN
  have key : ∀ n : S_notes_Note, n.f_Kind = 2 → n.f_Home = home → (0 ≤ n.f_Sent ∧ n.f_Sent < 18446744073709551616) → min (if (noteV disk 2 home).f_New = (l.getD i.toNat default).f_New then (noteV disk 2 home).f_Sent else 0) 999999 = min n.f_Sent 999999 →
      relayer_Step.j2 ⟨home, disk⟩ l cut i n = some (⟨home, noteB (noteN home disk l i)⟩, if cut = 1 then [] else [l.getD i.toNat default]) := by
    intro n k1 k2 k3 k4
    have hmem : l.getD i.toNat default ∈ l := by
      have : l.getD i.toNat default = l[i.toNat]'(by omega) := by simp [List.getD, show i.toNat < l.length by omega]
      rw [this]; exact List.getElem_mem _
    obtain ⟨s1, s2, s3⟩ := hsm _ hmem
    unfold relayer_Step.j2
    rw [if_pos (by omega)]
    have e1 : IntKind.wrap .u64 i = i := wu64 (by omega)
    have e2 : IntKind.wrap .u64 ((if (999999 : Int) < n.f_Sent then (999999 : Int) else n.f_Sent) + 1) = min n.f_Sent 999999 + 1 := by
      rw [wu64 (by split <;> omega)]
      split <;> omega
    have e3 : (⟨n.f_Kind, n.f_Home, IntKind.wrap .u64 i, (l.getD i.toNat default).f_Old, (l.getD i.toNat default).f_New, IntKind.wrap .u64 ((if (999999 : Int) < n.f_Sent then (999999 : Int) else n.f_Sent) + 1)⟩ : S_notes_Note) = noteN home disk l i := by
      rw [e1, e2, k1, k2, ← k4]; rfl
    rw [e3]
    refine bind_of (noteB_eq hN) ?_
    by_cases hc : cut = 1
    · rw [if_pos (decide_eq_true hc), if_pos hc]
    · rw [if_neg (by rw [decide_eq_false hc]; decide), if_neg hc, if_pos (by omega)]
      exact bind_of (clone_eq _ s1) (bind_of (clone_eq _ s2) (bind_of (clone_eq _ s3) rfl))
  unfold relayer_Step.j1
  rw [if_neg (by decide)]
  refine bind_of (x := noteV disk 2 home) (by unfold relayer_Note; exact bind_of (Read_eq disk 2 home) rfl) ?_
  rw [if_pos (by omega)]
  by_cases q : (noteV disk 2 home).f_New = (l.getD i.toNat default).f_New
  · rw [if_neg (by simp only [Bool.not_eq_true', decide_eq_false_iff_not]; exact fun w => w q)]
    exact key _ hkh.1 hkh.2 hs (by rw [if_pos q])
  · rw [if_pos (by simp only [Bool.not_eq_true', decide_eq_false_iff_not]; exact q)]
    exact key _ hkh.1 hkh.2 ⟨by simp only; omega, by simp only; omega⟩ (by rw [if_neg q])
theorem fresh_note (home : Int) : noteV [] 2 home = ⟨2, home, 0, List.replicate 32 0, List.replicate 32 0, 0⟩ := by
  have : ¬ enN (rdE []) = 0 := by decide
  unfold noteV
  rw [if_neg (fun q => this q.1.1)]
theorem awake23 : law23_awake = some true := by
  unfold law23_awake
  generalize hd : ([u8of 1] ++ List.replicate (32 - 1) 0 : List UInt8) = d
  have l1 : d.length = 32 := by rw [← hd]; rfl
  have hne : ¬ d = List.replicate 32 0 := by rw [← hd]; decide
  clear hd
  have hz : (List.replicate 32 0 : List UInt8).length = 32 := by simp
  generalize (List.replicate 32 0 : List UInt8) = z at hne hz ⊢
  have h0 : fitOf 1 [] [] ⟨0, 0, z, [], 0, z, [], [], false, false⟩ = -1 := rfl
  have hf1 : fitP ⟨0, 0, z, [], 0, z, [], [], false, false⟩ ⟨0, z, d, ⟨0, [], [], []⟩⟩ = true := by simp [fitP, hne]
  have h1 : fitOf 1 [] [⟨0, z, d, ⟨0, [], [], []⟩⟩] ⟨0, 0, z, [], 0, z, [], [], false, false⟩ = 0 := by
    unfold fitOf fitsV
    rw [fresh_note 1]
    have e : ff (fun i => fitP ⟨0, 0, z, [], 0, z, [], [], false, false⟩ (([⟨0, z, d, ⟨0, [], [], []⟩⟩] : List S_api_Update).getD i default) && decide ((0 : Int).toNat ≤ i)) 1 = 0 := by
      rw [ff_succ]
      show (if 0 ≤ (-1 : Int) then (-1 : Int) else if (fitP ⟨0, 0, z, [], 0, z, [], [], false, false⟩ ⟨0, z, d, ⟨0, [], [], []⟩⟩ && decide ((0 : Int).toNat ≤ 0)) = true then ((0 : Nat) : Int) else -1) = 0
      rw [hf1]
      rfl
    show (if 0 ≤ ff (fun i => fitP ⟨0, 0, z, [], 0, z, [], [], false, false⟩ (([⟨0, z, d, ⟨0, [], [], []⟩⟩] : List S_api_Update).getD i default) && decide ((0 : Int).toNat ≤ i)) 1 then _ else _) = (0 : Int)
    rw [e, if_pos (by decide)]
    exact e
  have s1 := step_stop 1 [] [] ⟨0, 0, z, [], 0, z, [], [], false, false⟩ (-1) (by simp) (by omega) (.inr (.inr (.inl (by rw [h0]; decide))))
  have s2 := step_go 1 [] [⟨0, z, d, ⟨0, [], [], []⟩⟩] ⟨0, 0, z, [], 0, z, [], [], false, false⟩ (-1) (by simp) (by omega) (fun u hu => by rw [List.mem_singleton.1 hu]; exact ⟨hz, l1⟩) (fun u hu => by rw [List.mem_singleton.1 hu]; simp) (by
    rw [h1]; unfold stopped; simp)
  rw [h1] at s2
  have hN := noteN_ok (home := 1) (disk := []) (l := [⟨0, z, d, ⟨0, [], [], []⟩⟩]) (i := 0) (by omega) (by simp) (by simp) (fun u hu => by rw [List.mem_singleton.1 hu]; exact ⟨hz, l1⟩)
  refine bind_of (x := (⟨1, []⟩ : S_relayer_Relayer)) rfl (bind_of s1 (bind_of (x := (⟨1, []⟩ : S_relayer_Relayer)) rfl (bind_of s2 ?_)))
  rw [if_pos (by rfl), if_pos (by rfl)]
  have hb := noteV_noteB hN
  refine bind_of (x := noteN 1 [] [⟨0, z, d, ⟨0, [], [], []⟩⟩] 0) ?_ ?_
  · unfold relayer_Note
    exact bind_of ((Read_eq _ 2 1).trans (congrArg some hb)) rfl
  · unfold law23_awake.j1
    have : (noteN 1 [] [⟨0, z, d, ⟨0, [], [], []⟩⟩] 0).f_Sent = 1 := by
      simp only [noteN, fresh_note]
      split <;> rfl
    rw [this]
    rfl
end
end Go.Proofs.YtklikgigjdgjaaaGreatDoorRRR
