/- Plain laws of bytes that are written: signatures, updates, stops. -/
import Derived.Test.YtnjkofmmpfehcaaDoorRP5n
namespace Go.Proofs.YtnjkofmmpfehcaaDoorR
open Go Go.RowKit Go.Proofs
set_option linter.unusedVariables false

theorem wordB {x : Int} (h : 0 ≤ x ∧ x < 4294967296) : wire_Word x = some (wrd x) := by
  unfold wire_Word wrd
  rw [wu64 (by omega), wu32 h, big4]
  rfl
theorem flat32 : ∀ (l : List (List UInt8)), (∀ p ∈ l, p.length = 32) → l.flatten.length = 32 * l.length
  | [], _ => rfl
  | p :: l, h => by
    have h1 := h p (by simp)
    have h2 := flat32 l (fun q hq => h q (by simp [hq]))
    simp [h1, h2]
    omega
def dsB (l : List (List UInt8)) : List UInt8 := wrd (l.length : Int) ++ l.flatten
theorem wrd_len (i : Int) : (wrd i).length = 4 := by simp [wrd, hd4]
theorem dsB_len {l : List (List UInt8)} (h : ∀ p ∈ l, p.length = 32) : (dsB l).length = 4 + 32 * l.length := by
  simp only [dsB, List.length_append, wrd_len, flat32 l h]
theorem at32 {l : List (List UInt8)} (h : ∀ p ∈ l, p.length = 32) (i : Nat) (hi : i < l.length) : l.getD (i : Int).toNat default = l[i] ∧ l[i].length = 32 := ⟨by simp [List.getD, hi], h _ (List.getElem_mem hi)⟩
theorem take_flat (l : List (List UInt8)) (i : Nat) (hi : i < l.length) : (l.take (i + 1)).flatten = (l.take i).flatten ++ l[i] := by
  rw [List.take_succ_eq_append_getElem hi, List.flatten_append]
  simp only [List.flatten_cons, List.flatten_nil, List.append_nil]
theorem take32 {l : List (List UInt8)} (h : ∀ p ∈ l, p.length = 32) (i : Nat) : ∀ p ∈ l.take i, p.length = 32 := fun p hp => h p (List.mem_of_mem_take hp)
theorem dsW {l : List (List UInt8)} (hl : l.length ≤ 60) (h : ∀ p ∈ l, p.length = 32) : wire_Digests l = some (dsB l) := by
  unfold wire_Digests
  rw [wu32 (by omega)]
  refine bind_of (wordB (by omega)) ?_
  refine bind_of (x := ((4 : Int), Value.nilIface, (⟨[] ++ wrd (l.length : Int)⟩ : O_Bld))) ?_ ?_
  · unfold strings_Builder_WriteString
    rw [if_pos (by simp [wrd_len, mxl])]
    simp [wrd_len]
  · obtain ⟨c, h3, h4⟩ := loop_ok (body := fun s : Int × O_Bld => wire_Digests.b1 l s.1 s.2) (fun s => ∃ i : Nat, i ≤ l.length ∧ s = ((i : Int), ⟨wrd (l.length : Int) ++ (l.take i).flatten⟩))
      (fun c => match c with | .next s => s.2 = ⟨dsB l⟩ | .ret r => False) (fun s => (l.length - s.1).toNat)
      (fun s ⟨i, hi, hs⟩ => by
        subst hs
        by_cases q : i < l.length
        · obtain ⟨e1, e2⟩ := at32 h i q
          refine .inl ⟨(((i + 1 : Nat) : Int), ⟨wrd (l.length : Int) ++ (l.take (i + 1)).flatten⟩), ?_, ⟨i + 1, by omega, rfl⟩, by simp; omega⟩
          show wire_Digests.b1 l (i : Int) ⟨_⟩ = _
          unfold wire_Digests.b1
          rw [if_pos (by simp; omega), if_pos (by omega), e1, w64 (by omega)]
          have e3 : (l[i].take (32 : Int).toNat).drop (0 : Int).toNat = l[i] := by
            show (l[i].take 32).drop 0 = l[i]
            rw [List.take_of_length_le (by omega)]; rfl
          rw [e3]
          have e4 := flat32 _ (take32 h i)
          have e5 : (l.take i).length ≤ 60 := by simp; omega
          refine bind_of (x := ((l[i].length : Int), Value.nilIface, (⟨(wrd (l.length : Int) ++ (l.take i).flatten) ++ l[i]⟩ : O_Bld))) ?_ ?_
          · unfold strings_Builder_Write
            rw [if_pos (by simp only [List.length_append, wrd_len, e4, e2, mxl]; omega)]
          · rw [take_flat l i q, List.append_assoc]
            rfl
        · have : i = l.length := by omega
          subst this
          refine .inr (.inl ⟨((l.length : Int), ⟨dsB l⟩), ?_, rfl⟩)
          show wire_Digests.b1 l (l.length : Int) ⟨_⟩ = _
          unfold wire_Digests.b1
          rw [if_neg (by simp), List.take_length]
          rfl) (((l.length : Int) - 0 : Int).toNat + 2) (0, ⟨[] ++ wrd (l.length : Int)⟩) ⟨0, by omega, by simp⟩ (by simp)
    cases c with
    | ret r => exact h4.elim
    | next s =>
      have h4 : s.2 = ⟨dsB l⟩ := h4
      refine bind_next h3 ?_
      show (strings_Builder_String s.2).bind _ = _
      rw [h4]
      refine bind_of (x := dsB l) ?_ rfl
      unfold strings_Builder_String
      rw [if_pos]
      intro q
      have := dsB_len h
      rw [show dsB l = [] from q, List.length_nil] at this
      omega
theorem dsR {l : List (List UInt8)} (hl : l.length ≤ 60) (h : ∀ p ∈ l, p.length = 32) : ref03_Digests l = some (dsB l) := by
  unfold ref03_Digests
  refine bind_of (rword_eq _) ?_
  obtain ⟨c, h3, h4⟩ := loop_ok (body := fun s : (List UInt8) × Int => ref03_Digests.b1 l s.1 s.2) (fun s => ∃ i : Nat, i ≤ l.length ∧ s = (wrd (l.length : Int) ++ (l.take i).flatten, (i : Int)))
      (fun c => match c with | .next s => s.1 = dsB l | .ret r => False) (fun s => (l.length - s.2).toNat)
      (fun s ⟨i, hi, hs⟩ => by
        subst hs
        by_cases q : i < l.length
        · obtain ⟨e1, e2⟩ := at32 h i q
          refine .inl ⟨(wrd (l.length : Int) ++ (l.take (i + 1)).flatten, ((i + 1 : Nat) : Int)), ?_, ⟨i + 1, by omega, rfl⟩, by simp; omega⟩
          show ref03_Digests.b1 l _ (i : Int) = _
          unfold ref03_Digests.b1
          rw [if_pos (by simp; omega), if_pos (by omega), e1, w64 (by omega)]
          have e4 := flat32 _ (take32 h i)
          have e5 : (l.take i).length ≤ 60 := by simp; omega
          have e3 : ref03_Bytes l[i] = some l[i] := by
            unfold ref03_Bytes
            show some (l[i].take 32) = _
            rw [List.take_of_length_le (by omega)]
          refine bind_of e3 ?_
          rw [if_pos (by simp only [List.length_append, wrd_len, e4, e2, mxl]; omega), take_flat l i q, List.append_assoc]
          rfl
        · have : i = l.length := by omega
          subst this
          refine .inr (.inl ⟨(dsB l, (l.length : Int)), ?_, rfl⟩)
          show ref03_Digests.b1 l _ (l.length : Int) = _
          unfold ref03_Digests.b1
          rw [if_neg (by simp), List.take_length]
          rfl) (((l.length : Int) - 0 : Int).toNat + 2) (wrd (l.length : Int), 0) ⟨0, by omega, by simp⟩ (by simp)
  cases c with
  | ret r => exact h4.elim
  | next s =>
    have h4 : s.1 = dsB l := h4
    refine bind_next h3 ?_
    rw [← h4]
theorem inrU {x : Int} (h : InR .u32 x) : 0 ≤ x ∧ x < 4294967296 := by
  have h1 := h.1
  have h2 := h.2
  simp [IntKind.min, IntKind.max, IntKind.bits, IntKind.signed] at h1 h2
  omega
def Sig60 (s : S_api_Sig) : Prop := s.f_Parts.length ≤ 60 ∧ s.f_Others.length ≤ 60 ∧ s.f_Path.length ≤ 60 ∧ (∀ p ∈ s.f_Parts, p.length = 32) ∧ (∀ p ∈ s.f_Others, p.length = 32) ∧ ∀ p ∈ s.f_Path, p.length = 32
def sgB (s : S_api_Sig) : List UInt8 := wrd s.f_Index ++ dsB s.f_Parts ++ dsB s.f_Others ++ dsB s.f_Path
theorem sgB_len {s : S_api_Sig} (h : Sig60 s) : (sgB s).length ≤ 10000 := by
  obtain ⟨a, b, c, d, e, f⟩ := h
  simp only [sgB, List.length_append, wrd_len, dsB_len d, dsB_len e, dsB_len f]
  omega
theorem wrd_wrap (i : Int) : wrd (IntKind.wrap .u32 i) = wrd i := by
  obtain ⟨m, k1, k2, k3⟩ := wrap32 i
  unfold wrd
  rw [k1, wu32 (by omega)]
theorem sgBW {s : S_api_Sig} (h : Sig60 s) : wire_Sig s = some (sgB s) := by
  have hh := h
  obtain ⟨a, b, c, d, e, f⟩ := h
  obtain ⟨m, k1, k2, k3⟩ := wrap32 s.f_Index
  unfold wire_Sig
  refine bind_of (x := wrd s.f_Index) ?_ (bind_of (dsW a d) ?_)
  · rw [← wrd_wrap, k1]; exact wordB (by omega)
  · rw [if_pos (by simp only [wrd_len, dsB_len d, mxl]; omega)]
    refine bind_of (dsW b e) ?_
    rw [if_pos (by simp only [List.length_append, wrd_len, dsB_len d, dsB_len e, mxl]; omega)]
    refine bind_of (dsW c f) ?_
    rw [if_pos (by simp only [List.length_append, wrd_len, dsB_len d, dsB_len e, dsB_len f, mxl]; omega)]
    rfl
theorem sgBR {s : S_api_Sig} (h : Sig60 s) : ref03_Sig s = some (sgB s) := by
  obtain ⟨a, b, c, d, e, f⟩ := h
  unfold ref03_Sig
  refine bind_of (x := wrd s.f_Index) ?_ (bind_of (dsR a d) ?_)
  · obtain ⟨n, h1, h2, h3⟩ := wrap64 s.f_Index
    obtain ⟨m, k1, k2, k3⟩ := wrap32 s.f_Index
    have e1 : (IntKind.wrap .u64 s.f_Index).tmod 4294967296 = ((n % 4294967296 : Nat) : Int) := by rw [h1, Int.tmod_eq_emod_of_nonneg (by omega)]; simp
    rw [e1, ref_big4 _ (by omega)]
    unfold wrd
    rw [k1]
    have : m = n % 4294967296 := by omega
    rw [this]
  · rw [if_pos (by simp only [wrd_len, dsB_len d, mxl]; omega)]
    refine bind_of (dsR b e) ?_
    rw [if_pos (by simp only [List.length_append, wrd_len, dsB_len d, dsB_len e, mxl]; omega)]
    refine bind_of (dsR c f) ?_
    rw [if_pos (by simp only [List.length_append, wrd_len, dsB_len d, dsB_len e, dsB_len f, mxl]; omega)]
    rfl
theorem by32 {x : List UInt8} (h : x.length = 32) : ref03_Bytes x = some x := by
  unfold ref03_Bytes
  show some (x.take 32) = _
  rw [List.take_of_length_le (by omega)]
def Upd60 (u : S_api_Update) : Prop := (0 ≤ u.f_Home ∧ u.f_Home < 4294967296) ∧ u.f_Old.length = 32 ∧ u.f_New.length = 32 ∧ Sig60 u.f_Sig
def upB (u : S_api_Update) : List UInt8 := wrd u.f_Home ++ u.f_Old ++ u.f_New ++ sgB u.f_Sig
theorem upBW {u : S_api_Update} (h : Upd60 u) : update_Bytes u = some (upB u) := by
  obtain ⟨a, b, c, d⟩ := h
  have l := sgB_len d
  unfold update_Bytes
  refine bind_of (wordB a) (bind_of (dig_eq b) ?_)
  rw [if_pos (by simp only [wrd_len, mxl]; omega)]
  refine bind_of (dig_eq c) ?_
  rw [if_pos (by simp only [List.length_append, wrd_len, mxl]; omega)]
  refine bind_of (sgBW d) ?_
  rw [if_pos (by simp only [List.length_append, wrd_len, mxl]; omega)]
  rfl
theorem upBR {u : S_api_Update} (h : Upd60 u) : ref10_Bytes u = some (upB u) := by
  obtain ⟨a, b, c, d⟩ := h
  have l := sgB_len d
  unfold ref10_Bytes
  refine bind_of (rword_eq _) (bind_of (by32 b) ?_)
  rw [if_pos (by simp only [wrd_len, mxl]; omega)]
  refine bind_of (by32 c) ?_
  rw [if_pos (by simp only [List.length_append, wrd_len, mxl]; omega)]
  refine bind_of (sgBR d) ?_
  rw [if_pos (by simp only [List.length_append, wrd_len, mxl]; omega)]
  rfl
def Stp60 (u : S_api_Stop) : Prop := (0 ≤ u.f_Home ∧ u.f_Home < 4294967296) ∧ u.f_Key.length = 32 ∧ Sig60 u.f_Sig
def stB (u : S_api_Stop) : List UInt8 := wrd u.f_Home ++ u.f_Key ++ wrd u.f_Watcher ++ sgB u.f_Sig
theorem stBW {u : S_api_Stop} (h : Stp60 u) : update_StopBytes u = some (stB u) := by
  obtain ⟨a, b, d⟩ := h
  have l := sgB_len d
  unfold update_StopBytes
  refine bind_of (wordB a) (bind_of (dig_eq b) ?_)
  rw [if_pos (by simp only [wrd_len, mxl]; omega)]
  obtain ⟨m, k1, k2, k3⟩ := wrap32 u.f_Watcher
  refine bind_of (x := wrd u.f_Watcher) (by rw [← wrd_wrap, k1]; exact wordB (by omega)) ?_
  rw [if_pos (by simp only [List.length_append, wrd_len, mxl]; omega)]
  refine bind_of (sgBW d) ?_
  rw [if_pos (by simp only [List.length_append, wrd_len, mxl]; omega)]
  rfl
theorem stBR {u : S_api_Stop} (h : Stp60 u) : ref10_StopBytes u = some (stB u) := by
  obtain ⟨a, b, d⟩ := h
  have l := sgB_len d
  unfold ref10_StopBytes
  refine bind_of (rword_eq _) (bind_of (by32 b) ?_)
  rw [if_pos (by simp only [wrd_len, mxl]; omega)]
  refine bind_of (rword_eq _) ?_
  rw [if_pos (by simp only [List.length_append, wrd_len, mxl]; omega)]
  refine bind_of (sgBR d) ?_
  rw [if_pos (by simp only [List.length_append, wrd_len, mxl]; omega)]
  rfl
end Go.Proofs.YtnjkofmmpfehcaaDoorR
