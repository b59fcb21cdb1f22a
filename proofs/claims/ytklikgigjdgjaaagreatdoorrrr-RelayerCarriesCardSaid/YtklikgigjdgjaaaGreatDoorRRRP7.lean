/- Plain laws: P1, P2, P4, P7, as one text. -/
import Derived.Test.YtklikgigjdgjaaaGreatDoorRRRG4
import Derived.Laws.BitsLemmas
namespace Go.Proofs.YtklikgigjdgjaaaGreatDoorRRR
open Go Go.RowKit Go.Proofs
section
set_option linter.unusedVariables false

theorem bind_of {α β : Type} {o : Option α} {f : α → Option β} {x : α} {r : Option β} (h : o = some x) (h2 : f x = r) : o.bind f = r := by subst h; exact h2
theorem bind_next {R S T : Type} {o : Option (Ctl R S)} {k : Ctl R S → Option T} {s : S} {r : Option T} (h : o = some (.next s)) (h2 : k (.next s) = r) : o.bind k = r := by subst h; exact h2
theorem loop_ok {R S : Type} {body : S → Option (Flow R S)} (I : S → Prop) (Q : Ctl R S → Prop) (m : S → Nat)
    (h : ∀ s, I s → (∃ s', body s = some (.cont s') ∧ I s' ∧ m s' < m s) ∨ (∃ s', body s = some (.brk s') ∧ Q (.next s')) ∨ ∃ r, body s = some (.ret r) ∧ Q (.ret r)) :
    ∀ (k : Nat) (s : S), I s → m s < k → ∃ c, loopN body k s = some c ∧ Q c
  | 0, s, _, hk => by omega
  | k + 1, s, hI, hk => by
    unfold loopN
    rcases h s hI with ⟨s', h1, h2, h3⟩ | ⟨s', h1, h2⟩ | ⟨r, h1, h2⟩
    · rw [h1]; exact loop_ok I Q m h k s' h2 (by omega)
    · rw [h1]; exact ⟨_, rfl, h2⟩
    · rw [h1]; exact ⟨_, rfl, h2⟩
theorem w64 {x : Int} (h : -9223372036854775808 ≤ x ∧ x ≤ 9223372036854775807) : IntKind.wrap .i64 x = x := by
  simp only [IntKind.wrap, IntKind.bits, IntKind.signed]
  simp
  omega
theorem schedule_round (b : List UInt8) (hb : b.length = 64) (i : Int) (w : List Int) (hi : 0 ≤ i ∧ i < 64) (hw : w.length = 64) : ∃ w', sha_schedule.b1 b i w = some (.cont (i + 1, w')) ∧ w'.length = 64 := by
  unfold sha_schedule.b1
  rw [if_pos (by simpa using hi.2)]
  by_cases h16 : i < 16
  · rw [if_pos (by simpa using h16)]
    simp (disch := omega) only [w64]
    have hlen : ((b.take (4 * i + 4).toNat).drop (4 * i).toNat).length = 4 := by simp; omega
    rw [if_pos (by omega), if_pos (by rw [hlen]; omega), if_pos (by rw [hlen]; omega), if_pos (by rw [hlen]; omega), if_pos (by rw [hlen]; omega), if_pos (by omega)]
    exact ⟨_, rfl, by simp [hw]⟩
  · rw [if_neg (by simpa using h16)]
    simp (disch := omega) only [w64]
    rw [if_pos (by omega), if_pos (by omega)]
    simp only [bits_RotateLeft32, Option.bind_some]
    rw [if_pos (by omega), if_pos (by omega), if_pos (by omega)]
    exact ⟨_, rfl, by simp [hw]⟩
theorem schedule_total (b : List UInt8) (hb : b.length = 64) : ∃ w, sha_schedule b = some w ∧ w.length = 64 := by
  obtain ⟨c, h1, h2⟩ := loop_ok (body := fun s : Int × List Int => sha_schedule.b1 b s.1 s.2) (fun s => 0 ≤ s.1 ∧ s.1 ≤ 64 ∧ s.2.length = 64) (fun c => match c with | .next s => s.2.length = 64 | .ret _ => False) (fun s => (64 - s.1).toNat)
    (fun s ⟨q1, q2, q3⟩ => by
      by_cases h : s.1 < 64
      · obtain ⟨w', e1, e2⟩ := schedule_round b hb s.1 s.2 ⟨q1, h⟩ q3
        exact .inl ⟨_, e1, ⟨by show 0 ≤ s.1 + 1; omega, by show s.1 + 1 ≤ 64; omega, e2⟩, by show (64 - (s.1 + 1)).toNat < (64 - s.1).toNat; omega⟩
      · exact .inr (.inl ⟨s, by unfold sha_schedule.b1; rw [if_neg (by simpa using h)], q3⟩)) ((64 - 0 : Int).toNat + 2) (0, List.replicate 64 0) ⟨by decide, by decide, by simp⟩ (by decide)
  unfold sha_schedule
  rw [h1]
  cases c with
  | ret r => exact h2.elim
  | next s => exact ⟨s.2, rfl, h2⟩
theorem block_total (h : List Int) (b : List UInt8) (hh : h.length = 8) : ∃ h', sha_Block h b = some h' ∧ h'.length = 8 := by
  unfold sha_Block
  by_cases hb : b.length = 64
  · rw [if_neg (by simp [hb])]
    obtain ⟨w, e1, e2⟩ := schedule_total b hb
    rw [e1, Option.bind_some]
    obtain ⟨c, h1, h2⟩ := loop_ok (body := fun s : Int × List Int => sha_Block.b1 w s.1 s.2) (fun s => 0 ≤ s.1 ∧ s.1 ≤ 64 ∧ s.2.length = 8) (fun c => match c with | .next s => s.2.length = 8 | .ret _ => False) (fun s => (64 - s.1).toNat)
      (fun s ⟨q1, q2, q3⟩ => by
        by_cases h : s.1 < 64
        · refine .inl ?_
          show ∃ s', sha_Block.b1 w s.1 s.2 = some (.cont s') ∧ _
          unfold sha_Block.b1
          rw [if_pos (by simpa using h)]
          simp only [bits_RotateLeft32, Option.bind_some]
          rw [if_pos (by omega)]
          simp (disch := omega) only [w64]
          refine ⟨_, rfl, ⟨by show 0 ≤ s.1 + 1; omega, by show s.1 + 1 ≤ 64; omega, ?_⟩, by show (64 - (s.1 + 1)).toNat < (64 - s.1).toNat; omega⟩
          simp [q3]
        · exact .inr (.inl ⟨s, by unfold sha_Block.b1; rw [if_neg (by simpa using h)], q3⟩)) ((64 - 0 : Int).toNat + 2) (0, h) ⟨by simp, by simp, hh⟩ (by simp)
    rw [h1]
    cases c with
    | ret r => exact h2.elim
    | next s =>
      obtain ⟨i, y⟩ := s
      have h2 : y.length = 8 := h2
      simp only [Option.bind_some]
      obtain ⟨c, h3, h4⟩ := loop_ok (body := fun s : Int × List Int => sha_Block.b2 h s.1 s.2) (fun s => 0 ≤ s.1 ∧ s.1 ≤ 8 ∧ s.2.length = 8) (fun c => match c with | .next s => s.2.length = 8 | .ret _ => False) (fun s => (8 - s.1).toNat)
        (fun s ⟨q1, q2, q3⟩ => by
          by_cases h : s.1 < 8
          · refine .inl ?_
            show ∃ s', sha_Block.b2 _ s.1 s.2 = some (.cont s') ∧ _
            unfold sha_Block.b2
            rw [if_pos (by simpa using h), if_pos (by omega)]
            simp (disch := omega) only [w64]
            exact ⟨_, rfl, ⟨by show 0 ≤ s.1 + 1; omega, by show s.1 + 1 ≤ 8; omega, by simp [q3]⟩, by show (8 - (s.1 + 1)).toNat < (8 - s.1).toNat; omega⟩
          · exact .inr (.inl ⟨s, by unfold sha_Block.b2; rw [if_neg (by simpa using h)], q3⟩)) ((8 - 0 : Int).toNat + 2) (0, y) ⟨by simp, by simp, h2⟩ (by simp)
      rw [h3]
      cases c with
      | ret r => exact h4.elim
      | next s => exact ⟨s.2, rfl, h4⟩
  · rw [if_pos (by simp; omega)]
    exact ⟨h, rfl, hh⟩
theorem add_total (st : S_sha_State) (l : List UInt8) (hw : st.f_Words.length = 8) (hl : st.f_Rest.length + l.length ≤ mxl) : ∃ st', sha_State_Add st l = some st' ∧ st'.f_Words.length = 8 ∧ st'.f_Rest.length < 64 := by
  unfold sha_State_Add
  rw [if_pos hl]
  obtain ⟨c, h1, h2⟩ := loop_ok (body := fun s : List UInt8 × S_sha_State => sha_State_Add.b1 s.1 s.2) (fun s => s.2.f_Words.length = 8) (fun c => match c with | .next s => s.1.length < 64 ∧ s.2.f_Words.length = 8 | .ret _ => False) (fun s => s.1.length / 64)
    (fun s q => by
      by_cases h : 64 ≤ s.1.length
      · refine .inl ?_
        show ∃ s', sha_State_Add.b1 s.1 s.2 = some (.cont s') ∧ _
        unfold sha_State_Add.b1
        rw [if_pos (by simp; omega), if_pos (by omega)]
        obtain ⟨h', e1, e2⟩ := block_total s.2.f_Words ((s.1.take 64).drop (0 : Int).toNat) q
        rw [e1, Option.bind_some, if_pos (by omega)]
        refine ⟨_, rfl, e2, ?_⟩
        simp
        omega
      · exact .inr (.inl ⟨s, by unfold sha_State_Add.b1; rw [if_neg (by simp; omega)], by show s.1.length < 64; omega, q⟩)) ((((st.f_Rest ++ l).length : Int) - 64 : Int).toNat + 2) (st.f_Rest ++ l, S_sha_State.mk st.f_Words st.f_Rest (IntKind.wrap .u64 (st.f_Count + (IntKind.wrap .u64 (l.length : Int))))) hw (by simp only [List.length_append]; omega)
  rw [h1]
  cases c with
  | ret r => exact h2.elim
  | next s => exact ⟨_, rfl, h2.2, h2.1⟩
theorem end_total (st : S_sha_State) (hw : st.f_Words.length = 8) (hr : st.f_Rest.length < 64) : ∃ d, sha_State_End st = some d ∧ d.length = 32 := by
  unfold sha_State_End
  obtain ⟨c, h1, h2⟩ := loop_ok (body := fun s : Int × List UInt8 => sha_State_End.b1 st s.1 s.2) (fun s => 0 ≤ s.1 ∧ s.1 ≤ 8 ∧ s.2.length = 8) (fun c => match c with | .next s => s.2.length = 8 | .ret _ => False) (fun s => (8 - s.1).toNat)
    (fun s ⟨q1, q2, q3⟩ => by
      by_cases h : s.1 < 8
      · refine .inl ?_
        show ∃ s', sha_State_End.b1 st s.1 s.2 = some (.cont s') ∧ _
        unfold sha_State_End.b1
        simp (disch := omega) only [w64]
        rw [if_pos (by simpa using h), if_pos (by omega), if_pos (by omega)]
        exact ⟨_, rfl, ⟨by show 0 ≤ s.1 + 1; omega, by show s.1 + 1 ≤ 8; omega, by simp [q3]⟩, by show (8 - (s.1 + 1)).toNat < (8 - s.1).toNat; omega⟩
      · exact .inr (.inl ⟨s, by unfold sha_State_End.b1; rw [if_neg (by simpa using h)], q3⟩)) ((8 - 0 : Int).toNat + 2) (0, List.replicate 8 0) ⟨by simp, by simp, by simp⟩ (by simp)
  rw [h1]
  cases c with
  | ret r => exact h2.elim
  | next s =>
    obtain ⟨i, y⟩ := s
    have h2 : y.length = 8 := h2
    simp only [Option.bind_some]
    have ht : (st.f_Rest.length : Int).tmod 64 = st.f_Rest.length := by rw [Int.tmod_eq_emod_of_nonneg (by omega)]; omega
    have hwr : IntKind.wrap .i64 (119 - ((st.f_Rest.length : Int).tmod 64)) = 119 - st.f_Rest.length := by rw [ht]; exact w64 (by omega)
    rw [hwr]
    have ht2 : (119 - (st.f_Rest.length : Int)).tmod 64 = (119 - (st.f_Rest.length : Int)) % 64 := Int.tmod_eq_emod_of_nonneg (by omega)
    rw [ht2]
    have hrep : ∀ n : Nat, (Lib.repeatL [0] n).length = n := fun n => by rw [Lib.repeatL_length]; simp
    rw [if_pos (by simp; omega), if_pos (by rw [hrep]; simp [mxl]; omega), if_pos (by rw [List.length_append, hrep]; simp [mxl]; omega)]
    obtain ⟨st', e1, e2, e3⟩ := add_total st (([128] ++ (Lib.repeatL [0] ((119 - (st.f_Rest.length : Int)) % 64).toNat)) ++ (y.take ((8 : Int).toNat - (0 : Int).toNat))) hw (by simp only [List.length_append, hrep]; simp [mxl]; omega)
    rw [e1, Option.bind_some]
    obtain ⟨c, h3, h4⟩ := loop_ok (body := fun s : Int × List UInt8 => sha_State_End.b2 st' s.1 s.2) (fun s => 0 ≤ s.1 ∧ s.1 ≤ 8 ∧ s.2.length = 32) (fun c => match c with | .next s => s.2.length = 32 | .ret _ => False) (fun s => (8 - s.1).toNat)
      (fun s ⟨q1, q2, q3⟩ => by
        by_cases h : s.1 < 8
        · refine .inl ?_
          show ∃ s', sha_State_End.b2 st' s.1 s.2 = some (.cont s') ∧ _
          unfold sha_State_End.b2
          rw [if_pos (by simpa using h), if_pos (by omega)]
          obtain ⟨c, h5, h6⟩ := loop_ok (body := fun t : Int × List UInt8 => sha_State_End.b3 st' s.1 t.1 t.2) (fun t => 0 ≤ t.1 ∧ t.1 ≤ 4 ∧ t.2.length = 32) (fun c => match c with | .next t => t.2.length = 32 | .ret _ => False) (fun t => (4 - t.1).toNat)
            (fun t ⟨r1, r2, r3⟩ => by
              by_cases h' : t.1 < 4
              · refine .inl ?_
                show ∃ s', sha_State_End.b3 st' s.1 t.1 t.2 = some (.cont s') ∧ _
                unfold sha_State_End.b3
                simp (disch := omega) only [w64]
                rw [if_pos (by simpa using h'), if_pos (by omega), if_pos (by omega)]
                exact ⟨_, rfl, ⟨by show 0 ≤ t.1 + 1; omega, by show t.1 + 1 ≤ 4; omega, by simp [r3]⟩, by show (4 - (t.1 + 1)).toNat < (4 - t.1).toNat; omega⟩
              · exact .inr (.inl ⟨t, by unfold sha_State_End.b3; rw [if_neg (by simpa using h')], r3⟩)) ((4 - 0 : Int).toNat + 2) (0, s.2) ⟨by simp, by simp, q3⟩ (by simp)
          rw [h5]
          cases c with
          | ret r => exact h6.elim
          | next t =>
            simp (disch := omega) only [w64, Option.bind_some]
            exact ⟨_, rfl, ⟨by show 0 ≤ s.1 + 1; omega, by show s.1 + 1 ≤ 8; omega, h6⟩, by show (8 - (s.1 + 1)).toNat < (8 - s.1).toNat; omega⟩
        · exact .inr (.inl ⟨s, by unfold sha_State_End.b2; rw [if_neg (by simpa using h)], q3⟩)) ((8 - 0 : Int).toNat + 2) (0, List.replicate 32 0) ⟨by simp, by simp, by simp⟩ (by simp)
    rw [h3]
    cases c with
    | ret r => exact h4.elim
    | next s => exact ⟨s.2, rfl, h4⟩
theorem sum_total (l : List UInt8) (hl : l.length ≤ mxl) : ∃ d, sha_Sum [l] = some d ∧ d.length = 32 := by
  unfold sha_Sum sha_Begin
  rw [Option.bind_some]
  obtain ⟨st, e1, e2, e3⟩ := add_total (S_sha_State.mk gFirst [] 0) l (by simp [gFirst]) (by simpa using hl)
  have hloop : loopN (fun s : Int × S_sha_State => sha_Sum.b1 [l] s.1 s.2) (((([l] : List (List UInt8)).length : Int) - 0 : Int).toNat + 2) (0, S_sha_State.mk gFirst [] 0) = some (.next (1, st)) := by
    show loopN _ 3 _ = _
    unfold loopN
    have hb0 : sha_Sum.b1 [l] 0 (S_sha_State.mk gFirst [] 0) = some (.cont (1, st)) := by
      unfold sha_Sum.b1
      rw [if_pos (by simp), if_pos (by simp)]
      have : ([l] : List (List UInt8)).getD (0 : Int).toNat default = l := rfl
      rw [this, e1, Option.bind_some]
      rfl
    have hb1 : sha_Sum.b1 [l] 1 st = some (.brk (1, st)) := by
      unfold sha_Sum.b1
      rw [if_neg (by simp)]
    simp only [hb0]
    unfold loopN
    simp only [hb1]
  rw [hloop]
  obtain ⟨d, h1, h2⟩ := end_total st e2 e3
  exact ⟨d, by simp only [Option.bind_some, h1], h2⟩
end

section
set_option linter.unusedVariables false

/-- A length, in four bytes. -/
def hd4 (n : Int) : List UInt8 := [u8of (IntKind.wrap .u8 (shr .u64 n 24)), u8of (IntKind.wrap .u8 (shr .u64 n 16)), u8of (IntKind.wrap .u8 (shr .u64 n 8)), u8of (IntKind.wrap .u8 (shr .u64 n 0))]
theorem big4 (n : Int) : wire_big n 4 = some (hd4 n) := rfl
theorem wu32 {x : Int} (h : 0 ≤ x ∧ x < 4294967296) : IntKind.wrap .u32 x = x := by
  simp only [IntKind.wrap, IntKind.bits, IntKind.signed]
  simp
  omega
theorem wu64 {x : Int} (h : 0 ≤ x ∧ x < 18446744073709551616) : IntKind.wrap .u64 x = x := by
  simp only [IntKind.wrap, IntKind.bits, IntKind.signed]
  simp
  omega
theorem byteOf {n : Nat} {q : Nat} {k : Int} (hk : (2 : Int) ^ (min k.toNat IntKind.u64.bits) = q) (hq : 0 < q) : (u8of (IntKind.wrap .u8 (shr .u64 (n : Int) k))).toNat = n / q % 256 := by
  unfold shr
  rw [hk, Int.fdiv_eq_ediv_of_nonneg _ (by omega)]
  have h1 : ((n : Int) / (q : Int)) = ((n / q : Nat) : Int) := by simp
  rw [h1]
  generalize n / q = m
  simp only [IntKind.wrap, IntKind.bits, IntKind.signed, u8of]
  simp
  omega
theorem text_eq (p : List UInt8) (h : p.length < 4294967296) : wire_Text p = some (hd4 p.length ++ p) := by
  unfold wire_Text wire_Word
  rw [wu32 (by omega), wu64 (by omega), big4]
  simp only [Option.bind_some]
  rw [if_pos (by simp only [hd4, List.length_cons, List.length_nil, mxl]; omega)]
/-- Parts, each behind its length. -/
def enc : List (List UInt8) → List UInt8
  | [] => []
  | p :: ps => hd4 p.length ++ p ++ enc ps
theorem enc_append : ∀ (ps qs : List (List UInt8)), enc (ps ++ qs) = enc ps ++ enc qs
  | [], qs => rfl
  | p :: ps, qs => by simp [enc, enc_append ps qs]
theorem enc_take_len (ps : List (List UInt8)) (i : Nat) : (enc (ps.take i)).length ≤ (enc ps).length := by
  have := enc_append (ps.take i) (ps.drop i)
  rw [List.take_append_drop] at this
  rw [this]; simp
theorem input_eq (d : Int) (ps : List (List UInt8)) (hp : ∀ p ∈ ps, p.length < 4294967296) (hl : (enc ps).length + 1 ≤ 140737488355328) (hn : ps.length < 4294967296) : digest_input d ps = some (u8of d :: enc ps) := by
  unfold digest_input strings_Builder_WriteByte
  rw [if_pos (by simp [mxl])]
  simp only [Option.bind_some]
  obtain ⟨c, h1, h2⟩ := loop_ok (body := fun s : Int × O_Bld => digest_input.b1 ps s.1 s.2) (fun s => ∃ i : Nat, i ≤ ps.length ∧ s = ((i : Int), ⟨u8of d :: enc (ps.take i)⟩)) (fun c => match c with | .next s => s.2 = ⟨u8of d :: enc ps⟩ | .ret _ => False) (fun s => (ps.length - s.1).toNat)
    (fun s ⟨i, hi, hs⟩ => by
      subst hs
      by_cases h : i < ps.length
      · refine .inl ?_
        show ∃ s', digest_input.b1 ps (i : Int) ⟨u8of d :: enc (ps.take i)⟩ = some (.cont s') ∧ _
        unfold digest_input.b1
        rw [if_pos (by simpa using h), if_pos (by omega)]
        have hg : ps.getD (i : Int).toNat default = ps[i] := by simp [List.getD, h]
        rw [hg, text_eq _ (hp _ (List.getElem_mem h)), Option.bind_some]
        unfold strings_Builder_WriteString
        have he : enc (ps.take (i + 1)) = enc (ps.take i) ++ (hd4 (ps[i].length : Int) ++ ps[i]) := by
          rw [List.take_succ_eq_append_getElem h, enc_append]; simp [enc]
        have hlen := enc_take_len ps (i + 1)
        rw [he] at hlen
        simp only [List.length_append] at hlen
        rw [if_pos (by simp only [List.length_cons, List.length_append, mxl]; omega), Option.bind_some]
        simp (disch := omega) only [w64]
        refine ⟨_, rfl, ⟨i + 1, by omega, ?_⟩, by show (ps.length - ((i : Int) + 1)).toNat < (ps.length - (i : Int)).toNat; omega⟩
        rw [he]; simp
      · have hi' : i = ps.length := by omega
        subst hi'
        exact .inr (.inl ⟨_, by show digest_input.b1 ps _ _ = _; unfold digest_input.b1; rw [if_neg (by simp)], by simp⟩)) (((ps.length : Int) - 0 : Int).toNat + 2) (0, ⟨[] ++ [u8of d]⟩) ⟨0, by omega, by simp [enc]⟩ (by simp)
  rw [h1]
  cases c with
  | ret r => exact h2.elim
  | next s =>
    obtain ⟨i, y⟩ := s
    have h2 : y = ⟨u8of d :: enc ps⟩ := h2
    subst h2
    simp only [Option.bind_some, strings_Builder_String]
    rw [if_pos (by simp)]
    rfl
end

section
set_option linter.unusedVariables false

def iter {σ : Type} (f : Nat → σ → σ) : Nat → Nat → σ → σ
  | _, 0, s => s
  | i, m + 1, s => iter f (i + 1) m (f i s)
theorem iter_add {σ : Type} (f : Nat → σ → σ) : ∀ (m n i : Nat) (s : σ), iter f i (m + n) s = iter f (i + m) n (iter f i m s)
  | 0, n, i, s => by simp [iter]
  | m + 1, n, i, s => by
    rw [Nat.add_right_comm, iter, iter_add f m n (i + 1) (f i s)]
    simp [iter, Nat.add_assoc, Nat.add_comm 1 m]
/-- A counting loop. -/
theorem loop_for {R σ : Type} {body : Int × σ → Option (Flow R (Int × σ))} (I : σ → Prop) (f : Nat → σ → σ) (n : Nat)
    (hs : ∀ (i : Nat) (s : σ), i < n → I s → body ((i : Int), s) = some (.cont (((i + 1 : Nat) : Int), f i s)) ∧ I (f i s)) (he : ∀ s, body ((n : Int), s) = some (.brk ((n : Int), s))) :
    ∀ (m i : Nat) (s : σ) (k : Nat), i + m = n → I s → m < k → loopN body k ((i : Int), s) = some (.next ((n : Int), iter f i m s)) ∧ I (iter f i m s)
  | 0, i, s, k + 1, h, hI, _ => by
    have : i = n := by omega
    subst this
    unfold loopN
    rw [he]
    exact ⟨rfl, hI⟩
  | m + 1, i, s, k + 1, h, hI, hk => by
    obtain ⟨h1, h2⟩ := hs i s (by omega) hI
    unfold loopN
    rw [h1]
    exact loop_for I f n hs he m (i + 1) (f i s) k (by omega) h2 (by omega)
theorem or_comm32 (a b : Int) : bits .or .u32 a b = bits .or .u32 b a := by
  simp only [bits]
  rw [BitVec.or_comm]
theorem wraps_u32 (n : Int) (h₀ : 0 ≤ n) (h₁ : n < 2 ^ 32) : IntKind.u32.wrap n = n := by rw [IntKind.wrap_u32]; omega
theorem word_eq (b0 b1 b2 b3 : Nat) (h0 : b0 < 256) (h1 : b1 < 256) (h2 : b2 < 256) (h3 : b3 < 256) :
    bits .or .u32 (bits .or .u32 (bits .or .u32 (shl .u32 (IntKind.wrap .u32 (b0 : Int)) 24) (shl .u32 (IntKind.wrap .u32 (b1 : Int)) 16)) (shl .u32 (IntKind.wrap .u32 (b2 : Int)) 8)) (IntKind.wrap .u32 (b3 : Int)) =
      IntKind.wrap .u32 ((IntKind.wrap .u32 ((IntKind.wrap .u32 ((IntKind.wrap .u32 ((IntKind.wrap .u32 (b0 : Int)) * 16777216)) + (IntKind.wrap .u32 ((IntKind.wrap .u32 (b1 : Int)) * 65536)))) + (IntKind.wrap .u32 ((IntKind.wrap .u32 (b2 : Int)) * 256)))) + (IntKind.wrap .u32 (b3 : Int))) := by
  have e24 : ∀ x : Int, shl .u32 x 24 = IntKind.wrap .u32 (x * 16777216) := fun x => rfl
  have e16 : ∀ x : Int, shl .u32 x 16 = IntKind.wrap .u32 (x * 65536) := fun x => rfl
  have e8 : ∀ x : Int, shl .u32 x 8 = IntKind.wrap .u32 (x * 256) := fun x => rfl
  rw [e24, e16, e8]
  simp (disch := omega) only [wraps_u32]
  rw [bits_join .u32 32 (by decide) wraps_u32 24 ((b0 : Int) * 16777216) ((b1 : Int) * 65536) (by omega) (by omega) (by omega) (by omega) (by omega) (by omega),
    bits_join .u32 32 (by decide) wraps_u32 16 ((b0 : Int) * 16777216 + (b1 : Int) * 65536) ((b2 : Int) * 256) (by omega) (by omega) (by omega) (by omega) (by omega) (by omega),
    bits_join .u32 32 (by decide) wraps_u32 8 ((b0 : Int) * 16777216 + (b1 : Int) * 65536 + (b2 : Int) * 256) (b3 : Int) (by omega) (by omega) (by omega) (by omega) (by omega) (by omega)]
end

section
set_option linter.unusedVariables false

noncomputable def H (x : List UInt8) : List UInt8 := Classical.epsilon fun d => sha_Sum [x] = some d
theorem H_eq {x : List UInt8} (h : x.length ≤ 1000000) : sha_Sum [x] = some (H x) ∧ (H x).length = 32 := by
  obtain ⟨d, h1, h2⟩ := sum_total x (by simp [mxl]; omega)
  have h3 : sha_Sum [x] = some (H x) := Classical.epsilon_spec (p := fun d => sha_Sum [x] = some d) ⟨d, h1⟩
  refine ⟨h3, ?_⟩
  rw [h1] at h3
  rw [← Option.some.inj h3]
  exact h2
def inp (d : Int) (ps : List (List UInt8)) : List UInt8 := u8of d :: enc ps
/-- Bounds of the parts of an ask. -/
def Small (ps : List (List UInt8)) : Prop := (∀ p ∈ ps, p.length ≤ 5000) ∧ ps.length ≤ 20
theorem Small.enc {ps : List (List UInt8)} (h : Small ps) : (enc ps).length ≤ 20 * 5004 := by
  have : ∀ (ps : List (List UInt8)), (∀ p ∈ ps, p.length ≤ 5000) → (Go.Proofs.YtklikgigjdgjaaaGreatDoorRRR.enc ps).length ≤ ps.length * 5004 := by
    intro ps
    induction ps with
    | nil => intro _; simp [Go.Proofs.YtklikgigjdgjaaaGreatDoorRRR.enc]
    | cons p ps ih =>
      intro hp
      have h1 := ih fun q hq => hp q (by simp [hq])
      have h2 := hp p (by simp)
      simp only [Go.Proofs.YtklikgigjdgjaaaGreatDoorRRR.enc, List.length_append, List.length_cons]
      simp [hd4]
      omega
  exact Nat.le_trans (this ps h.1) (Nat.mul_le_mul_right _ h.2)
theorem Small.H {ps : List (List UInt8)} (h : Small ps) (d : Int) : sha_Sum [inp d ps] = some (H (inp d ps)) ∧ (Go.Proofs.YtklikgigjdgjaaaGreatDoorRRR.H (inp d ps)).length = 32 :=
  H_eq (by have := h.enc; simp [inp]; omega)
theorem note_total (L : Option O_Log) (g s : List UInt8) : ∃ L', digest_Log_note L g s = some L' ∧ (L = none → L' = none) := by
  cases L with
  | none => exact ⟨none, rfl, fun _ => rfl⟩
  | some L =>
    show ∃ L', digest_Log_note.s L g s = some L' ∧ _
    unfold digest_Log_note.s digest_Log_note.j1 digest_Log_note.j2
    repeat' split
    all_goals exact ⟨_, rfl, fun h => by cases h⟩
theorem dOf (L : Option O_Log) (d : Int) {ps : List (List UInt8)} (h : Small ps) : ∃ L', digest_Log_Of L d ps = some (H (inp d ps), L') ∧ (L = none → L' = none) := by
  obtain ⟨L', h1, h2⟩ := note_total L (H (inp d ps)) (inp d ps)
  have he := h.enc
  refine ⟨L', ?_, h2⟩
  unfold digest_Log_Of
  exact bind_of (input_eq d ps (fun p hp => by have := h.1 p hp; omega) (by omega) (by have := h.2; omega)) (bind_of (h.H d).1 (bind_of h1 rfl))
def wrd (i : Int) : List UInt8 := hd4 (IntKind.wrap .u32 i)
def by1 (i : Int) : UInt8 := u8of (IntKind.wrap .u8 i)
theorem wu8_8 (i : Int) : IntKind.wrap .u8 (shr .u64 (IntKind.wrap .u64 (IntKind.wrap .u8 i)) 0) = IntKind.wrap .u8 i := by
  have h : 0 ≤ IntKind.wrap .u8 i ∧ IntKind.wrap .u8 i < 256 := by
    simp only [IntKind.wrap, IntKind.bits, IntKind.signed]; simp; omega
  rw [wu64 (by omega)]
  have h2 : shr .u64 (IntKind.wrap .u8 i) 0 = IntKind.wrap .u8 i := by
    unfold shr; simp
  rw [h2]
  simp only [IntKind.wrap, IntKind.bits, IntKind.signed]; simp
theorem byte_eq (i : Int) : wire_Byte (IntKind.wrap .u8 i) = some [by1 i] := by
  have h : ∀ n, wire_big n 1 = some [u8of (IntKind.wrap .u8 (shr .u64 n 0))] := fun _ => rfl
  unfold wire_Byte
  rw [h]
  refine bind_of rfl ?_
  rw [wu8_8]
  rfl
theorem word_text (i : Int) : wire_Word (IntKind.wrap .u32 i) = some (wrd i) := by
  unfold wire_Word
  have h : 0 ≤ IntKind.wrap .u32 i ∧ IntKind.wrap .u32 i < 4294967296 := by
    simp only [IntKind.wrap, IntKind.bits, IntKind.signed]; simp; omega
  rw [wu64 (by omega), big4]
  rfl
theorem dig_eq {x : List UInt8} (h : x.length = 32) : wire_Digest x = some x := by
  have : x.take ((32 : Int).toNat - (0 : Int).toNat) = x := List.take_of_length_le (by rw [h]; decide)
  unfold wire_Digest
  rw [this]
def secP (seed : List UInt8) (idx i b : Int) : List (List UInt8) := [seed, wrd idx, [by1 i], [by1 b]]
theorem secSmall {seed : List UInt8} (h : seed.length = 32) (idx i b : Int) : Small (secP seed idx i b) := by
  refine ⟨fun p hp => ?_, by simp [secP]⟩
  simp only [secP, List.mem_cons, List.not_mem_nil, or_false] at hp
  rcases hp with rfl | rfl | rfl | rfl
  · omega
  · simp [wrd, hd4]
  · simp
  · simp
theorem pubSmall {s : List UInt8} (h : s.length = 32) : Small [s] := ⟨fun p hp => by rw [List.mem_singleton.1 hp]; omega, by simp⟩
noncomputable def sec (seed : List UInt8) (idx i b : Int) : List UInt8 := H (inp 1 (secP seed idx i b))
noncomputable def pub (s : List UInt8) : List UInt8 := H (inp 2 [s])
theorem sec_len {seed : List UInt8} (h : seed.length = 32) (idx i b : Int) : (sec seed idx i b).length = 32 := ((secSmall h idx i b).H 1).2
theorem pub_len {s : List UInt8} (h : s.length = 32) : (pub s).length = 32 := ((pubSmall h).H 2).2
theorem secret_eq (L : Option O_Log) {seed : List UInt8} (h : seed.length = 32) (idx i b : Int) : ∃ L', lamport_Secret L seed idx i b = some (sec seed idx i b, L') ∧ (L = none → L' = none) := by
  obtain ⟨L', h1, h2⟩ := dOf L 1 (secSmall h idx i b)
  refine ⟨L', ?_, h2⟩
  unfold lamport_Secret
  exact bind_of (dig_eq h) (bind_of (word_text idx) (bind_of (byte_eq i) (bind_of (byte_eq b) (bind_of h1 rfl))))
theorem public_eq (L : Option O_Log) {s : List UInt8} (h : s.length = 32) : ∃ L', lamport_Public L s = some (pub s, L') ∧ (L = none → L' = none) := by
  obtain ⟨L', h1, h2⟩ := dOf L 2 (pubSmall h)
  refine ⟨L', ?_, h2⟩
  unfold lamport_Public
  exact bind_of (dig_eq h) (bind_of h1 rfl)
theorem flat_len : ∀ (ps : List (List UInt8)), (∀ p ∈ ps, p.length = 32) → ps.flatten.length = 32 * ps.length
  | [], _ => rfl
  | p :: ps, h => by
    have h1 := h p (by simp)
    have h2 := flat_len ps fun q hq => h q (by simp [hq])
    simp only [List.flatten_cons, List.length_append, List.length_cons]
    omega
theorem getD_at {α : Type} [Inhabited α] (l : List α) (i : Nat) (h : i < l.length) : l.getD (i : Int).toNat default = l[i] := by simp [List.getD, h]
noncomputable def wordOf (ps : List (List UInt8)) : List UInt8 := H (inp 3 [ps.flatten])
theorem flatSmall {ps : List (List UInt8)} (h : ps.length = 64) (hp : ∀ p ∈ ps, p.length = 32) : Small [ps.flatten] := ⟨fun p hq => by rw [List.mem_singleton.1 hq, flat_len ps hp]; omega, by simp⟩
theorem pair_eq (L : Option O_Log) {ps : List (List UInt8)} (h : ps.length = 64) (hp : ∀ p ∈ ps, p.length = 32) : ∃ L', lamport_pair L ps = some (wordOf ps, L') ∧ (L = none → L' = none) := by
  have hfl : ∀ k, (ps.take k).flatten.length ≤ 32 * 64 := fun k => by
    rw [flat_len _ fun p hq => hp p (List.mem_of_mem_take hq)]
    simp; omega
  obtain ⟨c, h1, h2⟩ := loop_ok (body := fun s : Int × O_Bld => lamport_pair.b1 ps s.1 s.2) (fun s => ∃ i : Nat, i ≤ 64 ∧ s = ((i : Int), ⟨(ps.take i).flatten⟩))
    (fun c => match c with | .next s => s.2 = ⟨ps.flatten⟩ | .ret _ => False) (fun s => (64 - s.1).toNat)
    (fun s ⟨i, hi, hs⟩ => by
      subst hs
      by_cases hlt : i < 64
      · have hw := hp ps[i] (List.getElem_mem (by omega))
        have e0 : ((ps.getD (i : Int).toNat default).take (32 : Int).toNat).drop (0 : Int).toNat = ps[i] := by
          rw [getD_at ps i (by omega)]
          exact List.take_of_length_le (by rw [hw]; decide)
        have e1 := hfl i
        have hwr : strings_Builder_Write ⟨(ps.take i).flatten⟩ ps[i] = some ((ps[i].length : Int), Value.nilIface, ⟨(ps.take i).flatten ++ ps[i]⟩) := by
          unfold strings_Builder_Write
          rw [if_pos (by simp only [mxl]; omega)]
        refine .inl ⟨(((i + 1 : Nat) : Int), ⟨(ps.take (i + 1)).flatten⟩), ?_, ⟨i + 1, by omega, rfl⟩, by simp; omega⟩
        show lamport_pair.b1 ps i _ = _
        unfold lamport_pair.b1
        rw [if_pos (by simp; omega), if_pos (by omega), e0]
        refine bind_of hwr ?_
        rw [w64 (by omega), List.take_succ_eq_append_getElem (by omega : i < ps.length), List.flatten_append]
        simp only [List.flatten_cons, List.flatten_nil, List.append_nil]
        rfl
      · have : i = 64 := by omega
        subst this
        refine .inr (.inl ⟨((64 : Nat), ⟨(ps.take 64).flatten⟩), ?_, by rw [List.take_of_length_le (by omega)]⟩)
        show lamport_pair.b1 ps 64 _ = _
        unfold lamport_pair.b1
        rw [if_neg (by simp)]
        rfl) ((64 - 0 : Int).toNat + 2) (0, ⟨[]⟩) ⟨0, by omega, rfl⟩ (by decide)
  obtain ⟨L', n1, n2⟩ := dOf L 3 (flatSmall h hp)
  refine ⟨L', ?_, n2⟩
  unfold lamport_pair
  cases c with
  | ret r => exact h2.elim
  | next s =>
    obtain ⟨i, b⟩ := s
    have h2 : b = ⟨ps.flatten⟩ := h2
    subst h2
    refine bind_next h1 (bind_of (x := ps.flatten) ?_ (bind_of n1 rfl))
    unfold strings_Builder_String
    rw [if_pos]
    intro e
    have := flat_len ps hp
    have e : ps.flatten = [] := e
    rw [e, h] at this
    cases this
/-- A list filled place by place. -/
theorem fill_step {α : Type} {n : Nat} (f : Nat → α) (w : List α) (i : Nat) (hw : w.length = n) (hi : i < n) (h : ∀ j, j < i → w[j]? = some (f j)) : ∀ j, j < i + 1 → (w.set i (f i))[j]? = some (f j) := by
  intro j hj
  by_cases e : i = j
  · subst e; rw [List.getElem?_set_self (by omega)]
  · rw [List.getElem?_set_ne e]; exact h j (by omega)
theorem filled {α : Type} {n : Nat} {f : Nat → α} {w : List α} (hw : w.length = n) (h : ∀ j, j < n → w[j]? = some (f j)) : w = (List.range n).map f := by
  refine List.ext_getElem? fun j => ?_
  by_cases hj : j < n
  · rw [h j hj]; simp [hj]
  · rw [List.getElem?_eq_none (by omega), List.getElem?_eq_none (by simp; omega)]
noncomputable def pubs (seed : List UInt8) (idx : Int) : List (List UInt8) := (List.range 64).map fun j => pub (sec seed idx ((j / 2 : Nat) : Int) ((j % 2 : Nat) : Int))
theorem pubs_len {seed : List UInt8} (h : seed.length = 32) (idx : Int) : (pubs seed idx).length = 64 ∧ ∀ p ∈ pubs seed idx, p.length = 32 := by
  refine ⟨by simp [pubs], fun p hp => ?_⟩
  obtain ⟨j, _, rfl⟩ := List.mem_map.1 hp
  exact pub_len (sec_len h _ _ _)
theorem word_law (L : Option O_Log) {seed : List UInt8} (h : seed.length = 32) (idx : Int) : ∃ L', lamport_Word L seed idx = some (wordOf (pubs seed idx), L') ∧ (L = none → L' = none) := by
  obtain ⟨c, h1, h2⟩ := loop_ok (body := fun s : Int × (Option O_Log) × (List (List UInt8)) => lamport_Word.b1 seed idx s.1 s.2.1 s.2.2)
    (fun s => ∃ i : Nat, i ≤ 64 ∧ s.1 = (i : Int) ∧ (L = none → s.2.1 = none) ∧ s.2.2.length = 64 ∧ ∀ j, j < i → s.2.2[j]? = some (pub (sec seed idx ((j / 2 : Nat) : Int) ((j % 2 : Nat) : Int))))
    (fun c => match c with | .next s => (L = none → s.2.1 = none) ∧ s.2.2 = pubs seed idx | .ret _ => False) (fun s => (64 - s.1).toNat)
    (fun s ⟨i, hi, q1, q2, q3, q4⟩ => by
      obtain ⟨x, l, w⟩ := s
      have q1 : x = (i : Int) := q1
      subst q1
      by_cases hlt : i < 64
      · obtain ⟨l1, a1, a2⟩ := secret_eq l h idx ((i / 2 : Nat) : Int) ((i % 2 : Nat) : Int)
        obtain ⟨l2, b1, b2⟩ := public_eq l1 (sec_len h idx ((i / 2 : Nat) : Int) ((i % 2 : Nat) : Int))
        refine .inl ⟨(((i + 1 : Nat) : Int), l2, w.set i (pub (sec seed idx ((i / 2 : Nat) : Int) ((i % 2 : Nat) : Int)))), ?_, ⟨i + 1, by omega, rfl, fun e => b2 (a2 (q2 e)), by simpa using q3, fill_step (n := 64) _ w i q3 hlt q4⟩, by simp; omega⟩
        show lamport_Word.b1 seed idx i l w = _
        unfold lamport_Word.b1
        have e1 : (i : Int).tdiv 2 = ((i / 2 : Nat) : Int) := by rw [Int.tdiv_eq_ediv_of_nonneg (by omega)]; simp
        have e2 : (i : Int).tmod 2 = ((i % 2 : Nat) : Int) := by rw [Int.tmod_eq_emod_of_nonneg (by omega)]; simp
        rw [if_pos (by simp; omega), e1, e2]
        simp (disch := omega) only [w64]
        refine bind_of a1 (bind_of b1 ?_)
        rw [if_pos (by omega)]
        rfl
      · have : i = 64 := by omega
        subst this
        refine .inr (.inl ⟨((64 : Nat), l, w), ?_, q2, filled q3 q4⟩)
        show lamport_Word.b1 seed idx 64 l w = _
        unfold lamport_Word.b1
        rw [if_neg (by simp)]
        rfl) ((64 - 0 : Int).toNat + 2) (0, L, (List.replicate 64 (List.replicate 32 0))) ⟨0, by omega, rfl, fun e => e, by simp, fun j hj => by omega⟩ (by simp)
  unfold lamport_Word
  cases c with
  | ret r => exact h2.elim
  | next s =>
    obtain ⟨i, l, w⟩ := s
    obtain ⟨h2, h3⟩ : (L = none → l = none) ∧ w = pubs seed idx := h2
    subst h3
    obtain ⟨l', p1, p2⟩ := pair_eq l (pubs_len h idx).1 (pubs_len h idx).2
    refine ⟨l', bind_next h1 ?_, fun e => p2 (h2 e)⟩
    dsimp only
    rw [p1]
    simp only [Option.bind_some]
theorem i64_and1 (n : Int) : bits .and .i64 n 1 = n % 2 := by
  have h1 : (BitVec.ofInt 64 1).toNat = 2 ^ 1 - 1 := by decide
  have key : (BitVec.ofInt 64 n &&& BitVec.ofInt 64 1).toNat = (n % ((2 ^ 64 : Nat) : Int)).toNat % 2 ^ 1 := by
    rw [BitVec.toNat_and, BitVec.toNat_ofInt, h1, Nat.and_two_pow_sub_one_eq_mod]
  show IntKind.i64.wrap ((BitVec.ofInt 64 n &&& BitVec.ofInt 64 1).toNat : Nat) = n % 2
  rw [key, IntKind.wrap_i64]
  omega
/-- The bit of a digest. -/
def bitv (d : List UInt8) (i : Int) : Int := (lamport_Bit d i).getD 0
theorem bit_eq (d : List UInt8) (i : Nat) (hi : i < 256) : lamport_Bit d i = some (bitv d i) ∧ (bitv d i = 0 ∨ bitv d i = 1) := by
  have e1 : (i : Int).tdiv 8 = ((i / 8 : Nat) : Int) := by rw [Int.tdiv_eq_ediv_of_nonneg (by omega)]; simp
  have e2 : (i : Int).tmod 8 = ((i % 8 : Nat) : Int) := by rw [Int.tmod_eq_emod_of_nonneg (by omega)]; simp
  have hex : ∃ b, lamport_Bit d i = some b ∧ (b = 0 ∨ b = 1) := by
    unfold lamport_Bit
    rw [if_neg (by simp)]
    unfold lamport_Bit.j1
    rw [if_neg (by simp; omega), e1, e2]
    simp (disch := omega) only [w64]
    rw [if_pos (by omega), if_pos (by omega)]
    refine ⟨_, rfl, ?_⟩
    rw [i64_and1]
    omega
  obtain ⟨b, h1, h2⟩ := hex
  unfold bitv
  rw [h1]
  exact ⟨rfl, h2⟩
noncomputable def sgP (seed : List UInt8) (idx : Int) (d : List UInt8) : List (List UInt8) := (List.range 32).map fun (i : Nat) => sec seed idx (i : Int) (bitv d (i : Int))
noncomputable def sgO (seed : List UInt8) (idx : Int) (d : List UInt8) : List (List UInt8) := (List.range 32).map fun (i : Nat) => pub (sec seed idx (i : Int) (1 - bitv d (i : Int)))
theorem sgP_len {seed : List UInt8} (h : seed.length = 32) (idx : Int) (d : List UInt8) : (sgP seed idx d).length = 32 ∧ ∀ p ∈ sgP seed idx d, p.length = 32 := by
  refine ⟨by simp [sgP], fun p hp => ?_⟩
  obtain ⟨j, _, rfl⟩ := List.mem_map.1 hp
  exact sec_len h _ _ _
theorem sgO_len {seed : List UInt8} (h : seed.length = 32) (idx : Int) (d : List UInt8) : (sgO seed idx d).length = 32 ∧ ∀ p ∈ sgO seed idx d, p.length = 32 := by
  refine ⟨by simp [sgO], fun p hp => ?_⟩
  obtain ⟨j, _, rfl⟩ := List.mem_map.1 hp
  exact pub_len (sec_len h _ _ _)
theorem sign_eq (L : Option O_Log) {seed : List UInt8} (h : seed.length = 32) (idx : Int) (d : List UInt8) : ∃ L', lamport_Sign L seed idx d = some (sgP seed idx d, sgO seed idx d, L') ∧ (L = none → L' = none) := by
  obtain ⟨c, h1, h2⟩ := loop_ok (body := fun s : Int × (Option O_Log) × (List (List UInt8)) × (List (List UInt8)) => lamport_Sign.b1 seed idx d s.1 s.2.1 s.2.2.1 s.2.2.2)
    (fun s => ∃ i : Nat, i ≤ 32 ∧ s.1 = (i : Int) ∧ (L = none → s.2.1 = none) ∧ s.2.2.1 = (List.range i).map (fun (i : Nat) => sec seed idx (i : Int) (bitv d (i : Int))) ∧ s.2.2.2 = (List.range i).map fun (i : Nat) => pub (sec seed idx (i : Int) (1 - bitv d (i : Int))))
    (fun c => match c with | .next s => (L = none → s.2.1 = none) ∧ s.2.2.1 = sgP seed idx d ∧ s.2.2.2 = sgO seed idx d | .ret _ => False) (fun s => (32 - s.1).toNat)
    (fun s ⟨i, hi, q1, q2, q3, q4⟩ => by
      obtain ⟨x, l, u, w⟩ := s
      have q1 : x = (i : Int) := q1
      have q3 : u = _ := q3
      have q4 : w = _ := q4
      subst q1 q3 q4
      by_cases hlt : i < 32
      · obtain ⟨hb, hb2⟩ := bit_eq d i (by omega)
        obtain ⟨l1, a1, a2⟩ := secret_eq l h idx (i : Int) (bitv d i)
        obtain ⟨l2, b1, b2⟩ := secret_eq l1 h idx (i : Int) (1 - bitv d i)
        obtain ⟨l3, c1, c2⟩ := public_eq l2 (sec_len h idx (i : Int) (1 - bitv d i))
        refine .inl ⟨(((i + 1 : Nat) : Int), l3, _, _), ?_, ⟨i + 1, by omega, rfl, fun e => c2 (b2 (a2 (q2 e))), rfl, rfl⟩, by simp; omega⟩
        show lamport_Sign.b1 seed idx d i l _ _ = _
        unfold lamport_Sign.b1
        rw [if_pos (by simp; omega)]
        refine bind_of hb (bind_of a1 ?_)
        rw [if_pos (by simp [mxl]; omega)]
        simp (disch := omega) only [w64]
        refine bind_of b1 (bind_of c1 ?_)
        rw [if_pos (by simp [mxl]; omega), List.range_succ, List.map_append, List.map_append]
        rfl
      · have : i = 32 := by omega
        subst this
        refine .inr (.inl ⟨((32 : Nat), l, _, _), ?_, q2, rfl, rfl⟩)
        show lamport_Sign.b1 seed idx d 32 l _ _ = _
        unfold lamport_Sign.b1
        rw [if_neg (by simp)]
        rfl) ((32 - 0 : Int).toNat + 2) (0, L, [], []) ⟨0, by omega, rfl, fun e => e, rfl, rfl⟩ (by simp)
  unfold lamport_Sign
  cases c with
  | ret r => exact h2.elim
  | next s =>
    obtain ⟨i, l, u, w⟩ := s
    obtain ⟨h2, h3, h4⟩ : (L = none → l = none) ∧ u = sgP seed idx d ∧ w = sgO seed idx d := h2
    subst h3 h4
    exact ⟨l, bind_next h1 rfl, h2⟩
noncomputable def opnA (d : List UInt8) (parts others : List (List UInt8)) (j : Nat) : List UInt8 := if ((j % 2 : Nat) : Int) = bitv d ((j / 2 : Nat) : Int) then pub (parts.getD (j / 2) default) else others.getD (j / 2) default
noncomputable def opn (d : List UInt8) (parts others : List (List UInt8)) : List (List UInt8) := (List.range 64).map (opnA d parts others)
theorem opn_len {d : List UInt8} {parts others : List (List UInt8)} (hp : parts.length = 32 ∧ ∀ p ∈ parts, p.length = 32) (ho : others.length = 32 ∧ ∀ p ∈ others, p.length = 32) : (opn d parts others).length = 64 ∧ ∀ p ∈ opn d parts others, p.length = 32 := by
  refine ⟨by simp [opn], fun p h => ?_⟩
  obtain ⟨j, hj, rfl⟩ := List.mem_map.1 h
  have hj : j < 64 := List.mem_range.1 hj
  unfold opnA
  split
  · rw [show parts.getD (j / 2) default = parts[j / 2]'(by omega) from by simp [List.getD, show j / 2 < parts.length by omega]]
    exact pub_len (hp.2 _ (List.getElem_mem _))
  · rw [show others.getD (j / 2) default = others[j / 2]'(by omega) from by simp [List.getD, show j / 2 < others.length by omega]]
    exact ho.2 _ (List.getElem_mem _)
theorem opened_eq (L : Option O_Log) (d : List UInt8) {parts others : List (List UInt8)} (hp : parts.length = 32 ∧ ∀ p ∈ parts, p.length = 32) (ho : others.length = 32 ∧ ∀ p ∈ others, p.length = 32) : ∃ L', lamport_Opened L d parts others = some (wordOf (opn d parts others), true, L') ∧ (L = none → L' = none) := by
  obtain ⟨c, h1, h2⟩ := loop_ok (body := fun s : Int × (Option O_Log) × (List (List UInt8)) => lamport_Opened.b1 d parts others s.1 s.2.1 s.2.2)
    (fun s => ∃ i : Nat, i ≤ 32 ∧ s.1 = (i : Int) ∧ (L = none → s.2.1 = none) ∧ s.2.2.length = 64 ∧ ∀ j, j < 2 * i → s.2.2[j]? = some (opnA d parts others j))
    (fun c => match c with | .next s => (L = none → s.2.1 = none) ∧ s.2.2 = opn d parts others | .ret _ => False) (fun s => (32 - s.1).toNat)
    (fun s ⟨i, hi, q1, q2, q3, q4⟩ => by
      obtain ⟨x, l, w⟩ := s
      have q1 : x = (i : Int) := q1
      have q3 : w.length = 64 := q3
      have q4 : ∀ j, j < 2 * i → w[j]? = some (opnA d parts others j) := q4
      subst q1
      by_cases hlt : i < 32
      · obtain ⟨hb, hb2⟩ := bit_eq d i (by omega)
        have g1 : parts.getD (i : Int).toNat default = parts.getD i default := rfl
        have hpi : (parts.getD i default).length = 32 := by
          rw [show parts.getD i default = parts[i]'(by omega) from by simp [List.getD, show i < parts.length by omega]]
          exact hp.2 _ (List.getElem_mem _)
        obtain ⟨l1, a1, a2⟩ := public_eq l hpi
        have hstep : ∃ w', lamport_Opened.b1 d parts others i l w = some (.cont (((i + 1 : Nat) : Int), l1, w')) ∧ w'.length = 64 ∧ ∀ j, j < 2 * (i + 1) → w'[j]? = some (opnA d parts others j) := by
          have k0 : opnA d parts others (2 * i) = if 0 = bitv d i then pub (parts.getD i default) else others.getD i default := by
            unfold opnA
            rw [show 2 * i % 2 = 0 by omega, show 2 * i / 2 = i by omega]
            rfl
          have k1 : opnA d parts others (2 * i + 1) = if 1 = bitv d i then pub (parts.getD i default) else others.getD i default := by
            unfold opnA
            rw [show (2 * i + 1) % 2 = 1 by omega, show (2 * i + 1) / 2 = i by omega]
            rfl
          unfold lamport_Opened.b1
          rw [if_pos (by simp; omega)]
          rcases hb2 with e | e
          · rw [e] at hb k0 k1
            refine ⟨(w.set (2 * i) (pub (parts.getD i default))).set (2 * i + 1) (others.getD i default), ?_, by simp [q3], fun j hj => ?_⟩
            · refine bind_of hb ?_
              rw [if_pos (by omega)]
              refine bind_of a1 ?_
              simp (disch := omega) only [w64]
              rw [if_pos (by omega), if_pos (by omega), if_pos (by omega)]
              have t1 : (2 * (i : Int) + 0).toNat = 2 * i := by omega
              have t2 : (2 * (i : Int) + 1 - 0).toNat = 2 * i + 1 := by omega
              rw [t1, t2]
              rfl
            · by_cases e1 : j = 2 * i + 1
              · subst e1; rw [List.getElem?_set_self (by simp; omega), k1]; simp
              · rw [List.getElem?_set_ne (by omega)]
                by_cases e0 : j = 2 * i
                · subst e0; rw [List.getElem?_set_self (by omega), k0]; simp
                · rw [List.getElem?_set_ne (by omega)]; exact q4 j (by omega)
          · rw [e] at hb k0 k1
            refine ⟨(w.set (2 * i + 1) (pub (parts.getD i default))).set (2 * i) (others.getD i default), ?_, by simp [q3], fun j hj => ?_⟩
            · refine bind_of hb ?_
              rw [if_pos (by omega)]
              refine bind_of a1 ?_
              simp (disch := omega) only [w64]
              rw [if_pos (by omega), if_pos (by omega), if_pos (by omega)]
              have t1 : (2 * (i : Int) + 1).toNat = 2 * i + 1 := by omega
              have t2 : (2 * (i : Int) + 1 - 1).toNat = 2 * i := by omega
              rw [t1, t2]
              rfl
            · by_cases e0 : j = 2 * i
              · subst e0; rw [List.getElem?_set_self (by simp; omega), k0]; simp
              · rw [List.getElem?_set_ne (by omega)]
                by_cases e1 : j = 2 * i + 1
                · subst e1; rw [List.getElem?_set_self (by omega), k1]; simp
                · rw [List.getElem?_set_ne (by omega)]; exact q4 j (by omega)
        obtain ⟨w', e1, e2, e3⟩ := hstep
        exact .inl ⟨_, e1, ⟨i + 1, by omega, rfl, fun e => a2 (q2 e), e2, e3⟩, by simp; omega⟩
      · have : i = 32 := by omega
        subst this
        refine .inr (.inl ⟨((32 : Nat), l, w), ?_, q2, filled q3 q4⟩)
        show lamport_Opened.b1 d parts others 32 l w = _
        unfold lamport_Opened.b1
        rw [if_neg (by simp)]
        rfl) ((32 - 0 : Int).toNat + 2) (0, L, (List.replicate 64 (List.replicate 32 0))) ⟨0, by omega, rfl, fun e => e, by simp, fun j hj => by omega⟩ (by simp)
  unfold lamport_Opened
  rw [if_neg (by simp [hp.1])]
  unfold lamport_Opened.j1
  rw [if_neg (by simp [ho.1])]
  cases c with
  | ret r => exact h2.elim
  | next s =>
    obtain ⟨i, l, w⟩ := s
    obtain ⟨h2, h3⟩ : (L = none → l = none) ∧ w = opn d parts others := h2
    subst h3
    obtain ⟨l', p1, p2⟩ := pair_eq l (opn_len (d := d) hp ho).1 (opn_len hp ho).2
    refine ⟨l', bind_next h1 ?_, fun e => p2 (h2 e)⟩
    dsimp only
    rw [p1]
    simp only [Option.bind_some]
theorem opened_no (L : Option O_Log) (d : List UInt8) {parts others : List (List UInt8)} (h : ¬(parts.length = 32 ∧ others.length = 32)) : lamport_Opened L d parts others = some (List.replicate 32 0, false, L) := by
  unfold lamport_Opened
  by_cases hp : parts.length = 32
  · rw [if_neg (by simp [hp])]
    unfold lamport_Opened.j1
    rw [if_pos (by simp; omega)]
  · rw [if_pos (by simp; omega)]
    unfold lamport_Opened.j1
    rw [if_pos rfl]
theorem at_map {n : Nat} (f : Nat → List UInt8) (k : Nat) (h : k < n) : ((List.range n).map f).getD k default = f k := by simp [List.getD, h]
/-- What was signed is opened to the key's publics. -/
theorem opn_sign (seed : List UInt8) (idx : Int) (d : List UInt8) : opn d (sgP seed idx d) (sgO seed idx d) = pubs seed idx := by
  unfold opn pubs
  refine List.map_congr_left fun j hj => ?_
  have hj : j < 64 := List.mem_range.1 hj
  obtain ⟨_, hb⟩ := bit_eq d (j / 2) (by omega)
  unfold opnA sgP sgO
  rw [at_map _ _ (by omega), at_map _ _ (by omega)]
  split
  · rename_i e; rw [← e]
  · rename_i e
    have h2 : j % 2 = 0 ∨ j % 2 = 1 := by omega
    have : 1 - bitv d ((j / 2 : Nat) : Int) = ((j % 2 : Nat) : Int) := by
      rcases h2 with h2 | h2 <;> rw [h2] at e ⊢ <;> rcases hb with hb | hb <;> rw [hb] at e ⊢ <;> simp at e ⊢
    rw [this]
end
end Go.Proofs.YtklikgigjdgjaaaGreatDoorRRR
