/- Plain laws: P1, P2, P4, P7, as one text. -/
import Derived.Test.YtnjkofmmpfehcaaDoorRG3
import Derived.Laws.BitsLemmas
namespace Go.Proofs.YtnjkofmmpfehcaaDoorR
open Go Go.RowKit Go.Proofs
section
set_option linter.unusedVariables false

theorem bind_of {α β : Type} {o : Option α} {f : α → Option β} {x : α} {r : Option β} (h : o = some x) (h2 : f x = r) : o.bind f = r := by subst h; exact h2
theorem bind_next {R S T : Type} {o : Option (Ctl R S)} {k : Ctl R S → Option T} {s : S} {r : Option T} (h : o = some (.next s)) (h2 : k (.next s) = r) : o.bind k = r := by subst h; exact h2
theorem loop_ok {R S : Type} {body : S → Option (Flow R S)} (I : S → Prop) (Q : Ctl R S → Prop) (m : S → Nat)
    (h : ∀ s, I s → (∃ s', body s = some (.cont s') ∧ I s' ∧ m s' < m s) ∨ (∃ s', body s = some (.brk s') ∧ Q (.next s')) ∨ ∃ r, body s = some (.ret r) ∧ Q (.ret r)) :
    ∀ (k : Nat) (s : S), I s → m s < k → ∃ c, loopN body k s = some c ∧ Q c
  | 0, s, _, hk => by omega
  | k + 1, s, hI, hk => by
    unfold loopN
    rcases h s hI with ⟨s', h1, h2, h3⟩ | ⟨s', h1, h2⟩ | ⟨r, h1, h2⟩
    · rw [h1]; exact loop_ok I Q m h k s' h2 (by omega)
    · rw [h1]; exact ⟨_, rfl, h2⟩
    · rw [h1]; exact ⟨_, rfl, h2⟩
theorem w64 {x : Int} (h : -9223372036854775808 ≤ x ∧ x ≤ 9223372036854775807) : IntKind.wrap .i64 x = x := by
  simp only [IntKind.wrap, IntKind.bits, IntKind.signed]
  simp
  omega
theorem schedule_round (b : List UInt8) (hb : b.length = 64) (i : Int) (w : List Int) (hi : 0 ≤ i ∧ i < 64) (hw : w.length = 64) : ∃ w', sha_schedule.b1 b i w = some (.cont (i + 1, w')) ∧ w'.length = 64 := by
  unfold sha_schedule.b1
  rw [if_pos (by simpa using hi.2)]
  by_cases h16 : i < 16
  · rw [if_pos (by simpa using h16)]
    simp (disch := omega) only [w64]
    have hlen : ((b.take (4 * i + 4).toNat).drop (4 * i).toNat).length = 4 := by simp; omega
    rw [if_pos (by omega), if_pos (by rw [hlen]; omega), if_pos (by rw [hlen]; omega), if_pos (by rw [hlen]; omega), if_pos (by rw [hlen]; omega), if_pos (by omega)]
    exact ⟨_, rfl, by simp [hw]⟩
  · rw [if_neg (by simpa using h16)]
    simp (disch := omega) only [w64]
    rw [if_pos (by omega), if_pos (by omega)]
    simp only [bits_RotateLeft32, Option.bind_some]
    rw [if_pos (by omega), if_pos (by omega), if_pos (by omega)]
    exact ⟨_, rfl, by simp [hw]⟩
theorem schedule_total (b : List UInt8) (hb : b.length = 64) : ∃ w, sha_schedule b = some w ∧ w.length = 64 := by
  obtain ⟨c, h1, h2⟩ := loop_ok (body := fun s : Int × List Int => sha_schedule.b1 b s.1 s.2) (fun s => 0 ≤ s.1 ∧ s.1 ≤ 64 ∧ s.2.length = 64) (fun c => match c with | .next s => s.2.length = 64 | .ret _ => False) (fun s => (64 - s.1).toNat)
    (fun s ⟨q1, q2, q3⟩ => by
      by_cases h : s.1 < 64
      · obtain ⟨w', e1, e2⟩ := schedule_round b hb s.1 s.2 ⟨q1, h⟩ q3
        exact .inl ⟨_, e1, ⟨by show 0 ≤ s.1 + 1; omega, by show s.1 + 1 ≤ 64; omega, e2⟩, by show (64 - (s.1 + 1)).toNat < (64 - s.1).toNat; omega⟩
      · exact .inr (.inl ⟨s, by unfold sha_schedule.b1; rw [if_neg (by simpa using h)], q3⟩)) ((64 - 0 : Int).toNat + 2) (0, List.replicate 64 0) ⟨by decide, by decide, by simp⟩ (by decide)
  unfold sha_schedule
  rw [h1]
  cases c with
  | ret r => exact h2.elim
  | next s => exact ⟨s.2, rfl, h2⟩
theorem block_total (h : List Int) (b : List UInt8) (hh : h.length = 8) : ∃ h', sha_Block h b = some h' ∧ h'.length = 8 := by
  unfold sha_Block
  by_cases hb : b.length = 64
  · rw [if_neg (by simp [hb])]
    obtain ⟨w, e1, e2⟩ := schedule_total b hb
    rw [e1, Option.bind_some]
    obtain ⟨c, h1, h2⟩ := loop_ok (body := fun s : Int × List Int => sha_Block.b1 w s.1 s.2) (fun s => 0 ≤ s.1 ∧ s.1 ≤ 64 ∧ s.2.length = 8) (fun c => match c with | .next s => s.2.length = 8 | .ret _ => False) (fun s => (64 - s.1).toNat)
      (fun s ⟨q1, q2, q3⟩ => by
        by_cases h : s.1 < 64
        · refine .inl ?_
          show ∃ s', sha_Block.b1 w s.1 s.2 = some (.cont s') ∧ _
          unfold sha_Block.b1
          rw [if_pos (by simpa using h)]
          simp only [bits_RotateLeft32, Option.bind_some]
          rw [if_pos (by omega)]
          simp (disch := omega) only [w64]
          refine ⟨_, rfl, ⟨by show 0 ≤ s.1 + 1; omega, by show s.1 + 1 ≤ 64; omega, ?_⟩, by show (64 - (s.1 + 1)).toNat < (64 - s.1).toNat; omega⟩
          simp [q3]
        · exact .inr (.inl ⟨s, by unfold sha_Block.b1; rw [if_neg (by simpa using h)], q3⟩)) ((64 - 0 : Int).toNat + 2) (0, h) ⟨by simp, by simp, hh⟩ (by simp)
    rw [h1]
    cases c with
    | ret r => exact h2.elim
    | next s =>
      obtain ⟨i, y⟩ := s
      have h2 : y.length = 8 := h2
      simp only [Option.bind_some]
      obtain ⟨c, h3, h4⟩ := loop_ok (body := fun s : Int × List Int => sha_Block.b2 h s.1 s.2) (fun s => 0 ≤ s.1 ∧ s.1 ≤ 8 ∧ s.2.length = 8) (fun c => match c with | .next s => s.2.length = 8 | .ret _ => False) (fun s => (8 - s.1).toNat)
        (fun s ⟨q1, q2, q3⟩ => by
          by_cases h : s.1 < 8
          · refine .inl ?_
            show ∃ s', sha_Block.b2 _ s.1 s.2 = some (.cont s') ∧ _
            unfold sha_Block.b2
            rw [if_pos (by simpa using h), if_pos (by omega)]
            simp (disch := omega) only [w64]
            exact ⟨_, rfl, ⟨by show 0 ≤ s.1 + 1; omega, by show s.1 + 1 ≤ 8; omega, by simp [q3]⟩, by show (8 - (s.1 + 1)).toNat < (8 - s.1).toNat; omega⟩
          · exact .inr (.inl ⟨s, by unfold sha_Block.b2; rw [if_neg (by simpa using h)], q3⟩)) ((8 - 0 : Int).toNat + 2) (0, y) ⟨by simp, by simp, h2⟩ (by simp)
      rw [h3]
      cases c with
      | ret r => exact h4.elim
      | next s => exact ⟨s.2, rfl, h4⟩
  · rw [if_pos (by simp; omega)]
    exact ⟨h, rfl, hh⟩
theorem add_total (st : S_sha_State) (l : List UInt8) (hw : st.f_Words.length = 8) (hl : st.f_Rest.length + l.length ≤ mxl) : ∃ st', sha_State_Add st l = some st' ∧ st'.f_Words.length = 8 ∧ st'.f_Rest.length < 64 := by
  unfold sha_State_Add
  rw [if_pos hl]
  obtain ⟨c, h1, h2⟩ := loop_ok (body := fun s : List UInt8 × S_sha_State => sha_State_Add.b1 s.1 s.2) (fun s => s.2.f_Words.length = 8) (fun c => match c with | .next s => s.1.length < 64 ∧ s.2.f_Words.length = 8 | .ret _ => False) (fun s => s.1.length / 64)
    (fun s q => by
      by_cases h : 64 ≤ s.1.length
      · refine .inl ?_
        show ∃ s', sha_State_Add.b1 s.1 s.2 = some (.cont s') ∧ _
        unfold sha_State_Add.b1
        rw [if_pos (by simp; omega), if_pos (by omega)]
        obtain ⟨h', e1, e2⟩ := block_total s.2.f_Words ((s.1.take 64).drop (0 : Int).toNat) q
        rw [e1, Option.bind_some, if_pos (by omega)]
        refine ⟨_, rfl, e2, ?_⟩
        simp
        omega
      · exact .inr (.inl ⟨s, by unfold sha_State_Add.b1; rw [if_neg (by simp; omega)], by show s.1.length < 64; omega, q⟩)) ((((st.f_Rest ++ l).length : Int) - 64 : Int).toNat + 2) (st.f_Rest ++ l, S_sha_State.mk st.f_Words st.f_Rest (IntKind.wrap .u64 (st.f_Count + (IntKind.wrap .u64 (l.length : Int))))) hw (by simp only [List.length_append]; omega)
  rw [h1]
  cases c with
  | ret r => exact h2.elim
  | next s => exact ⟨_, rfl, h2.2, h2.1⟩
theorem end_total (st : S_sha_State) (hw : st.f_Words.length = 8) (hr : st.f_Rest.length < 64) : ∃ d, sha_State_End st = some d ∧ d.length = 32 := by
  unfold sha_State_End
  obtain ⟨c, h1, h2⟩ := loop_ok (body := fun s : Int × List UInt8 => sha_State_End.b1 st s.1 s.2) (fun s => 0 ≤ s.1 ∧ s.1 ≤ 8 ∧ s.2.length = 8) (fun c => match c with | .next s => s.2.length = 8 | .ret _ => False) (fun s => (8 - s.1).toNat)
    (fun s ⟨q1, q2, q3⟩ => by
      by_cases h : s.1 < 8
      · refine .inl ?_
        show ∃ s', sha_State_End.b1 st s.1 s.2 = some (.cont s') ∧ _
        unfold sha_State_End.b1
        simp (disch := omega) only [w64]
        rw [if_pos (by simpa using h), if_pos (by omega), if_pos (by omega)]
        exact ⟨_, rfl, ⟨by show 0 ≤ s.1 + 1; omega, by show s.1 + 1 ≤ 8; omega, by simp [q3]⟩, by show (8 - (s.1 + 1)).toNat < (8 - s.1).toNat; omega⟩
      · exact .inr (.inl ⟨s, by unfold sha_State_End.b1; rw [if_neg (by simpa using h)], q3⟩)) ((8 - 0 : Int).toNat + 2) (0, List.replicate 8 0) ⟨by simp, by simp, by simp⟩ (by simp)
  rw [h1]
  cases c with
  | ret r => exact h2.elim
  | next s =>
    obtain ⟨i, y⟩ := s
    have h2 : y.length = 8 := h2
    simp only [Option.bind_some]
    have ht : (st.f_Rest.length : Int).tmod 64 = st.f_Rest.length := by rw [Int.tmod_eq_emod_of_nonneg (by omega)]; omega
    have hwr : IntKind.wrap .i64 (119 - ((st.f_Rest.length : Int).tmod 64)) = 119 - st.f_Rest.length := by rw [ht]; exact w64 (by omega)
    rw [hwr]
    have ht2 : (119 - (st.f_Rest.length : Int)).tmod 64 = (119 - (st.f_Rest.length : Int)) % 64 := Int.tmod_eq_emod_of_nonneg (by omega)
    rw [ht2]
    have hrep : ∀ n : Nat, (Lib.repeatL [0] n).length = n := fun n => by rw [Lib.repeatL_length]; simp
    rw [if_pos (by simp; omega), if_pos (by rw [hrep]; simp [mxl]; omega), if_pos (by rw [List.length_append, hrep]; simp [mxl]; omega)]
    obtain ⟨st', e1, e2, e3⟩ := add_total st (([128] ++ (Lib.repeatL [0] ((119 - (st.f_Rest.length : Int)) % 64).toNat)) ++ (y.take ((8 : Int).toNat - (0 : Int).toNat))) hw (by simp only [List.length_append, hrep]; simp [mxl]; omega)
    rw [e1, Option.bind_some]
    obtain ⟨c, h3, h4⟩ := loop_ok (body := fun s : Int × List UInt8 => sha_State_End.b2 st' s.1 s.2) (fun s => 0 ≤ s.1 ∧ s.1 ≤ 8 ∧ s.2.length = 32) (fun c => match c with | .next s => s.2.length = 32 | .ret _ => False) (fun s => (8 - s.1).toNat)
      (fun s ⟨q1, q2, q3⟩ => by
        by_cases h : s.1 < 8
        · refine .inl ?_
          show ∃ s', sha_State_End.b2 st' s.1 s.2 = some (.cont s') ∧ _
          unfold sha_State_End.b2
          rw [if_pos (by simpa using h), if_pos (by omega)]
          obtain ⟨c, h5, h6⟩ := loop_ok (body := fun t : Int × List UInt8 => sha_State_End.b3 st' s.1 t.1 t.2) (fun t => 0 ≤ t.1 ∧ t.1 ≤ 4 ∧ t.2.length = 32) (fun c => match c with | .next t => t.2.length = 32 | .ret _ => False) (fun t => (4 - t.1).toNat)
            (fun t ⟨r1, r2, r3⟩ => by
              by_cases h' : t.1 < 4
              · refine .inl ?_
                show ∃ s', sha_State_End.b3 st' s.1 t.1 t.2 = some (.cont s') ∧ _
                unfold sha_State_End.b3
                simp (disch := omega) only [w64]
                rw [if_pos (by simpa using h'), if_pos (by omega), if_pos (by omega)]
                exact ⟨_, rfl, ⟨by show 0 ≤ t.1 + 1; omega, by show t.1 + 1 ≤ 4; omega, by simp [r3]⟩, by show (4 - (t.1 + 1)).toNat < (4 - t.1).toNat; omega⟩
              · exact .inr (.inl ⟨t, by unfold sha_State_End.b3; rw [if_neg (by simpa using h')], r3⟩)) ((4 - 0 : Int).toNat + 2) (0, s.2) ⟨by simp, by simp, q3⟩ (by simp)
          rw [h5]
          cases c with
          | ret r => exact h6.elim
          | next t =>
            simp (disch := omega) only [w64, Option.bind_some]
            exact ⟨_, rfl, ⟨by show 0 ≤ s.1 + 1; omega, by show s.1 + 1 ≤ 8; omega, h6⟩, by show (8 - (s.1 + 1)).toNat < (8 - s.1).toNat; omega⟩
        · exact .inr (.inl ⟨s, by unfold sha_State_End.b2; rw [if_neg (by simpa using h)], q3⟩)) ((8 - 0 : Int).toNat + 2) (0, List.replicate 32 0) ⟨by simp, by simp, by simp⟩ (by simp)
    rw [h3]
    cases c with
    | ret r => exact h4.elim
    | next s => exact ⟨s.2, rfl, h4⟩
theorem sum_total (l : List UInt8) (hl : l.length ≤ mxl) : ∃ d, sha_Sum [l] = some d ∧ d.length = 32 := by
  unfold sha_Sum sha_Begin
  rw [Option.bind_some]
  obtain ⟨st, e1, e2, e3⟩ := add_total (S_sha_State.mk gFirst [] 0) l (by simp [gFirst]) (by simpa using hl)
  have hloop : loopN (fun s : Int × S_sha_State => sha_Sum.b1 [l] s.1 s.2) (((([l] : List (List UInt8)).length : Int) - 0 : Int).toNat + 2) (0, S_sha_State.mk gFirst [] 0) = some (.next (1, st)) := by
    show loopN _ 3 _ = _
    unfold loopN
    have hb0 : sha_Sum.b1 [l] 0 (S_sha_State.mk gFirst [] 0) = some (.cont (1, st)) := by
      unfold sha_Sum.b1
      rw [if_pos (by simp), if_pos (by simp)]
      have : ([l] : List (List UInt8)).getD (0 : Int).toNat default = l := rfl
      rw [this, e1, Option.bind_some]
      rfl
    have hb1 : sha_Sum.b1 [l] 1 st = some (.brk (1, st)) := by
      unfold sha_Sum.b1
      rw [if_neg (by simp)]
    simp only [hb0]
    unfold loopN
    simp only [hb1]
  rw [hloop]
  obtain ⟨d, h1, h2⟩ := end_total st e2 e3
  exact ⟨d, by simp only [Option.bind_some, h1], h2⟩
end

section
set_option linter.unusedVariables false

/-- A length, in four bytes. -/
def hd4 (n : Int) : List UInt8 := [u8of (IntKind.wrap .u8 (shr .u64 n 24)), u8of (IntKind.wrap .u8 (shr .u64 n 16)), u8of (IntKind.wrap .u8 (shr .u64 n 8)), u8of (IntKind.wrap .u8 (shr .u64 n 0))]
theorem big4 (n : Int) : wire_big n 4 = some (hd4 n) := rfl
theorem wu32 {x : Int} (h : 0 ≤ x ∧ x < 4294967296) : IntKind.wrap .u32 x = x := by
  simp only [IntKind.wrap, IntKind.bits, IntKind.signed]
  simp
  omega
theorem wu64 {x : Int} (h : 0 ≤ x ∧ x < 18446744073709551616) : IntKind.wrap .u64 x = x := by
  simp only [IntKind.wrap, IntKind.bits, IntKind.signed]
  simp
  omega
theorem byteOf {n : Nat} {q : Nat} {k : Int} (hk : (2 : Int) ^ (min k.toNat IntKind.u64.bits) = q) (hq : 0 < q) : (u8of (IntKind.wrap .u8 (shr .u64 (n : Int) k))).toNat = n / q % 256 := by
  unfold shr
  rw [hk, Int.fdiv_eq_ediv_of_nonneg _ (by omega)]
  have h1 : ((n : Int) / (q : Int)) = ((n / q : Nat) : Int) := by simp
  rw [h1]
  generalize n / q = m
  simp only [IntKind.wrap, IntKind.bits, IntKind.signed, u8of]
  simp
  omega
theorem hd4_inj {n m : Nat} (hn : n < 4294967296) (hm : m < 4294967296) (h : hd4 n = hd4 m) : n = m := by
  unfold hd4 at h
  simp only [List.cons.injEq, and_true] at h
  obtain ⟨h1, h2, h3, h4⟩ := h
  have e1 := congrArg UInt8.toNat h1
  have e2 := congrArg UInt8.toNat h2
  have e3 := congrArg UInt8.toNat h3
  have e4 := congrArg UInt8.toNat h4
  rw [byteOf (q := 16777216) (by decide) (by decide), byteOf (q := 16777216) (by decide) (by decide)] at e1
  rw [byteOf (q := 65536) (by decide) (by decide), byteOf (q := 65536) (by decide) (by decide)] at e2
  rw [byteOf (q := 256) (by decide) (by decide), byteOf (q := 256) (by decide) (by decide)] at e3
  rw [byteOf (q := 1) (by decide) (by decide), byteOf (q := 1) (by decide) (by decide)] at e4
  omega
theorem text_eq (p : List UInt8) (h : p.length < 4294967296) : wire_Text p = some (hd4 p.length ++ p) := by
  unfold wire_Text wire_Word
  rw [wu32 (by omega), wu64 (by omega), big4]
  simp only [Option.bind_some]
  rw [if_pos (by simp only [hd4, List.length_cons, List.length_nil, mxl]; omega)]
/-- Parts, each behind its length. -/
def enc : List (List UInt8) → List UInt8
  | [] => []
  | p :: ps => hd4 p.length ++ p ++ enc ps
theorem enc_append : ∀ (ps qs : List (List UInt8)), enc (ps ++ qs) = enc ps ++ enc qs
  | [], qs => rfl
  | p :: ps, qs => by simp [enc, enc_append ps qs]
theorem enc_inj : ∀ (ps qs : List (List UInt8)), (∀ p ∈ ps, p.length < 4294967296) → (∀ p ∈ qs, p.length < 4294967296) → enc ps = enc qs → ps = qs
  | [], [], _, _, _ => rfl
  | [], q :: qs, _, _, h => by have := congrArg List.length h; simp [enc, hd4] at this
  | p :: ps, [], _, _, h => by have := congrArg List.length h; simp [enc, hd4] at this
  | p :: ps, q :: qs, hp, hq, h => by
    simp only [enc, List.append_assoc] at h
    have hl : (hd4 (p.length : Int)).length = (hd4 (q.length : Int)).length := rfl
    obtain ⟨h1, h2⟩ := List.append_inj h hl
    have h3 := hd4_inj (hp p (by simp)) (hq q (by simp)) h1
    obtain ⟨h4, h5⟩ := List.append_inj h2 h3
    rw [h4, enc_inj ps qs (fun x hx => hp x (by simp [hx])) (fun x hx => hq x (by simp [hx])) h5]
theorem enc_take_len (ps : List (List UInt8)) (i : Nat) : (enc (ps.take i)).length ≤ (enc ps).length := by
  have := enc_append (ps.take i) (ps.drop i)
  rw [List.take_append_drop] at this
  rw [this]; simp
theorem input_eq (d : Int) (ps : List (List UInt8)) (hp : ∀ p ∈ ps, p.length < 4294967296) (hl : (enc ps).length + 1 ≤ 140737488355328) (hn : ps.length < 4294967296) : digest_input d ps = some (u8of d :: enc ps) := by
  unfold digest_input strings_Builder_WriteByte
  rw [if_pos (by simp [mxl])]
  simp only [Option.bind_some]
  obtain ⟨c, h1, h2⟩ := loop_ok (body := fun s : Int × O_Bld => digest_input.b1 ps s.1 s.2) (fun s => ∃ i : Nat, i ≤ ps.length ∧ s = ((i : Int), ⟨u8of d :: enc (ps.take i)⟩)) (fun c => match c with | .next s => s.2 = ⟨u8of d :: enc ps⟩ | .ret _ => False) (fun s => (ps.length - s.1).toNat)
    (fun s ⟨i, hi, hs⟩ => by
      subst hs
      by_cases h : i < ps.length
      · refine .inl ?_
        show ∃ s', digest_input.b1 ps (i : Int) ⟨u8of d :: enc (ps.take i)⟩ = some (.cont s') ∧ _
        unfold digest_input.b1
        rw [if_pos (by simpa using h), if_pos (by omega)]
        have hg : ps.getD (i : Int).toNat default = ps[i] := by simp [List.getD, h]
        rw [hg, text_eq _ (hp _ (List.getElem_mem h)), Option.bind_some]
        unfold strings_Builder_WriteString
        have he : enc (ps.take (i + 1)) = enc (ps.take i) ++ (hd4 (ps[i].length : Int) ++ ps[i]) := by
          rw [List.take_succ_eq_append_getElem h, enc_append]; simp [enc]
        have hlen := enc_take_len ps (i + 1)
        rw [he] at hlen
        simp only [List.length_append] at hlen
        rw [if_pos (by simp only [List.length_cons, List.length_append, mxl]; omega), Option.bind_some]
        simp (disch := omega) only [w64]
        refine ⟨_, rfl, ⟨i + 1, by omega, ?_⟩, by show (ps.length - ((i : Int) + 1)).toNat < (ps.length - (i : Int)).toNat; omega⟩
        rw [he]; simp
      · have hi' : i = ps.length := by omega
        subst hi'
        exact .inr (.inl ⟨_, by show digest_input.b1 ps _ _ = _; unfold digest_input.b1; rw [if_neg (by simp)], by simp⟩)) (((ps.length : Int) - 0 : Int).toNat + 2) (0, ⟨[] ++ [u8of d]⟩) ⟨0, by omega, by simp [enc]⟩ (by simp)
  rw [h1]
  cases c with
  | ret r => exact h2.elim
  | next s =>
    obtain ⟨i, y⟩ := s
    have h2 : y = ⟨u8of d :: enc ps⟩ := h2
    subst h2
    simp only [Option.bind_some, strings_Builder_String]
    rw [if_pos (by simp)]
    rfl
end

section
set_option linter.unusedVariables false

def iter {σ : Type} (f : Nat → σ → σ) : Nat → Nat → σ → σ
  | _, 0, s => s
  | i, m + 1, s => iter f (i + 1) m (f i s)
theorem iter_add {σ : Type} (f : Nat → σ → σ) : ∀ (m n i : Nat) (s : σ), iter f i (m + n) s = iter f (i + m) n (iter f i m s)
  | 0, n, i, s => by simp [iter]
  | m + 1, n, i, s => by
    rw [Nat.add_right_comm, iter, iter_add f m n (i + 1) (f i s)]
    simp [iter, Nat.add_assoc, Nat.add_comm 1 m]
/-- A counting loop. -/
theorem loop_for {R σ : Type} {body : Int × σ → Option (Flow R (Int × σ))} (I : σ → Prop) (f : Nat → σ → σ) (n : Nat)
    (hs : ∀ (i : Nat) (s : σ), i < n → I s → body ((i : Int), s) = some (.cont (((i + 1 : Nat) : Int), f i s)) ∧ I (f i s)) (he : ∀ s, body ((n : Int), s) = some (.brk ((n : Int), s))) :
    ∀ (m i : Nat) (s : σ) (k : Nat), i + m = n → I s → m < k → loopN body k ((i : Int), s) = some (.next ((n : Int), iter f i m s)) ∧ I (iter f i m s)
  | 0, i, s, k + 1, h, hI, _ => by
    have : i = n := by omega
    subst this
    unfold loopN
    rw [he]
    exact ⟨rfl, hI⟩
  | m + 1, i, s, k + 1, h, hI, hk => by
    obtain ⟨h1, h2⟩ := hs i s (by omega) hI
    unfold loopN
    rw [h1]
    exact loop_for I f n hs he m (i + 1) (f i s) k (by omega) h2 (by omega)
theorem or_comm32 (a b : Int) : bits .or .u32 a b = bits .or .u32 b a := by
  simp only [bits]
  rw [BitVec.or_comm]
theorem wraps_u32 (n : Int) (h₀ : 0 ≤ n) (h₁ : n < 2 ^ 32) : IntKind.u32.wrap n = n := by rw [IntKind.wrap_u32]; omega
theorem word_eq (b0 b1 b2 b3 : Nat) (h0 : b0 < 256) (h1 : b1 < 256) (h2 : b2 < 256) (h3 : b3 < 256) :
    bits .or .u32 (bits .or .u32 (bits .or .u32 (shl .u32 (IntKind.wrap .u32 (b0 : Int)) 24) (shl .u32 (IntKind.wrap .u32 (b1 : Int)) 16)) (shl .u32 (IntKind.wrap .u32 (b2 : Int)) 8)) (IntKind.wrap .u32 (b3 : Int)) =
      IntKind.wrap .u32 ((IntKind.wrap .u32 ((IntKind.wrap .u32 ((IntKind.wrap .u32 ((IntKind.wrap .u32 (b0 : Int)) * 16777216)) + (IntKind.wrap .u32 ((IntKind.wrap .u32 (b1 : Int)) * 65536)))) + (IntKind.wrap .u32 ((IntKind.wrap .u32 (b2 : Int)) * 256)))) + (IntKind.wrap .u32 (b3 : Int))) := by
  have e24 : ∀ x : Int, shl .u32 x 24 = IntKind.wrap .u32 (x * 16777216) := fun x => rfl
  have e16 : ∀ x : Int, shl .u32 x 16 = IntKind.wrap .u32 (x * 65536) := fun x => rfl
  have e8 : ∀ x : Int, shl .u32 x 8 = IntKind.wrap .u32 (x * 256) := fun x => rfl
  rw [e24, e16, e8]
  simp (disch := omega) only [wraps_u32]
  rw [bits_join .u32 32 (by decide) wraps_u32 24 ((b0 : Int) * 16777216) ((b1 : Int) * 65536) (by omega) (by omega) (by omega) (by omega) (by omega) (by omega),
    bits_join .u32 32 (by decide) wraps_u32 16 ((b0 : Int) * 16777216 + (b1 : Int) * 65536) ((b2 : Int) * 256) (by omega) (by omega) (by omega) (by omega) (by omega) (by omega),
    bits_join .u32 32 (by decide) wraps_u32 8 ((b0 : Int) * 16777216 + (b1 : Int) * 65536 + (b2 : Int) * 256) (b3 : Int) (by omega) (by omega) (by omega) (by omega) (by omega) (by omega)]
end

section
set_option linter.unusedVariables false

noncomputable def H (x : List UInt8) : List UInt8 := Classical.epsilon fun d => sha_Sum [x] = some d
theorem H_eq {x : List UInt8} (h : x.length ≤ 1000000) : sha_Sum [x] = some (H x) ∧ (H x).length = 32 := by
  obtain ⟨d, h1, h2⟩ := sum_total x (by simp [mxl]; omega)
  have h3 : sha_Sum [x] = some (H x) := Classical.epsilon_spec (p := fun d => sha_Sum [x] = some d) ⟨d, h1⟩
  refine ⟨h3, ?_⟩
  rw [h1] at h3
  rw [← Option.some.inj h3]
  exact h2
def inp (d : Int) (ps : List (List UInt8)) : List UInt8 := u8of d :: enc ps
/-- Bounds of the parts of an ask. -/
def Small (ps : List (List UInt8)) : Prop := (∀ p ∈ ps, p.length ≤ 5000) ∧ ps.length ≤ 20
theorem Small.enc {ps : List (List UInt8)} (h : Small ps) : (enc ps).length ≤ 20 * 5004 := by
  have : ∀ (ps : List (List UInt8)), (∀ p ∈ ps, p.length ≤ 5000) → (Go.Proofs.YtnjkofmmpfehcaaDoorR.enc ps).length ≤ ps.length * 5004 := by
    intro ps
    induction ps with
    | nil => intro _; simp [Go.Proofs.YtnjkofmmpfehcaaDoorR.enc]
    | cons p ps ih =>
      intro hp
      have h1 := ih fun q hq => hp q (by simp [hq])
      have h2 := hp p (by simp)
      simp only [Go.Proofs.YtnjkofmmpfehcaaDoorR.enc, List.length_append, List.length_cons]
      simp [hd4]
      omega
  exact Nat.le_trans (this ps h.1) (Nat.mul_le_mul_right _ h.2)
theorem Small.H {ps : List (List UInt8)} (h : Small ps) (d : Int) : sha_Sum [inp d ps] = some (H (inp d ps)) ∧ (Go.Proofs.YtnjkofmmpfehcaaDoorR.H (inp d ps)).length = 32 :=
  H_eq (by have := h.enc; simp [inp]; omega)
theorem note_total (L : Option O_Log) (g s : List UInt8) : ∃ L', digest_Log_note L g s = some L' ∧ (L = none → L' = none) := by
  cases L with
  | none => exact ⟨none, rfl, fun _ => rfl⟩
  | some L =>
    show ∃ L', digest_Log_note.s L g s = some L' ∧ _
    unfold digest_Log_note.s digest_Log_note.j1 digest_Log_note.j2
    repeat' split
    all_goals exact ⟨_, rfl, fun h => by cases h⟩
theorem dOf (L : Option O_Log) (d : Int) {ps : List (List UInt8)} (h : Small ps) : ∃ L', digest_Log_Of L d ps = some (H (inp d ps), L') ∧ (L = none → L' = none) := by
  obtain ⟨L', h1, h2⟩ := note_total L (H (inp d ps)) (inp d ps)
  have he := h.enc
  refine ⟨L', ?_, h2⟩
  unfold digest_Log_Of
  exact bind_of (input_eq d ps (fun p hp => by have := h.1 p hp; omega) (by omega) (by have := h.2; omega)) (bind_of (h.H d).1 (bind_of h1 rfl))
def wrd (i : Int) : List UInt8 := hd4 (IntKind.wrap .u32 i)
def by1 (i : Int) : UInt8 := u8of (IntKind.wrap .u8 i)
theorem dig_eq {x : List UInt8} (h : x.length = 32) : wire_Digest x = some x := by
  have : x.take ((32 : Int).toNat - (0 : Int).toNat) = x := List.take_of_length_le (by rw [h]; decide)
  unfold wire_Digest
  rw [this]
def secP (seed : List UInt8) (idx i b : Int) : List (List UInt8) := [seed, wrd idx, [by1 i], [by1 b]]
noncomputable def sec (seed : List UInt8) (idx i b : Int) : List UInt8 := H (inp 1 (secP seed idx i b))
end
end Go.Proofs.YtnjkofmmpfehcaaDoorR
