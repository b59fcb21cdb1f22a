/- Plain law: the program's SHA-256 answers, whatever comes in (no memory in sight). -/
import Derived.Test.YtnjkofmmpfehcaaDoorRG2
namespace Go.Proofs.YtnjkofmmpfehcaaDoorR
open Go Go.RowKit Go.Proofs
set_option linter.unusedVariables false

theorem bind_of {α β : Type} {o : Option α} {f : α → Option β} {x : α} {r : Option β} (h : o = some x) (h2 : f x = r) : o.bind f = r := by subst h; exact h2
theorem bind_next {R S T : Type} {o : Option (Ctl R S)} {k : Ctl R S → Option T} {s : S} {r : Option T} (h : o = some (.next s)) (h2 : k (.next s) = r) : o.bind k = r := by subst h; exact h2
theorem loop_ok {R S : Type} {body : S → Option (Flow R S)} (I : S → Prop) (Q : Ctl R S → Prop) (m : S → Nat)
    (h : ∀ s, I s → (∃ s', body s = some (.cont s') ∧ I s' ∧ m s' < m s) ∨ (∃ s', body s = some (.brk s') ∧ Q (.next s')) ∨ ∃ r, body s = some (.ret r) ∧ Q (.ret r)) :
    ∀ (k : Nat) (s : S), I s → m s < k → ∃ c, loopN body k s = some c ∧ Q c
  | 0, s, _, hk => by omega
  | k + 1, s, hI, hk => by
    unfold loopN
    rcases h s hI with ⟨s', h1, h2, h3⟩ | ⟨s', h1, h2⟩ | ⟨r, h1, h2⟩
    · rw [h1]; exact loop_ok I Q m h k s' h2 (by omega)
    · rw [h1]; exact ⟨_, rfl, h2⟩
    · rw [h1]; exact ⟨_, rfl, h2⟩
theorem w64 {x : Int} (h : -9223372036854775808 ≤ x ∧ x ≤ 9223372036854775807) : IntKind.wrap .i64 x = x := by
  simp only [IntKind.wrap, IntKind.bits, IntKind.signed]
  simp
  omega
theorem schedule_round (b : List UInt8) (hb : b.length = 64) (i : Int) (w : List Int) (hi : 0 ≤ i ∧ i < 64) (hw : w.length = 64) : ∃ w', sha_schedule.b1 b i w = some (.cont (i + 1, w')) ∧ w'.length = 64 := by
  unfold sha_schedule.b1
  rw [if_pos (by simpa using hi.2)]
  by_cases h16 : i < 16
  · rw [if_pos (by simpa using h16)]
    simp (disch := omega) only [w64]
    have hlen : ((b.take (4 * i + 4).toNat).drop (4 * i).toNat).length = 4 := by simp; omega
    rw [if_pos (by omega), if_pos (by rw [hlen]; omega), if_pos (by rw [hlen]; omega), if_pos (by rw [hlen]; omega), if_pos (by rw [hlen]; omega), if_pos (by omega)]
    exact ⟨_, rfl, by simp [hw]⟩
  · rw [if_neg (by simpa using h16)]
    simp (disch := omega) only [w64]
    rw [if_pos (by omega), if_pos (by omega)]
    simp only [bits_RotateLeft32, Option.bind_some]
    rw [if_pos (by omega), if_pos (by omega), if_pos (by omega)]
    exact ⟨_, rfl, by simp [hw]⟩
theorem schedule_total (b : List UInt8) (hb : b.length = 64) : ∃ w, sha_schedule b = some w ∧ w.length = 64 := by
  obtain ⟨c, h1, h2⟩ := loop_ok (body := fun s : Int × List Int => sha_schedule.b1 b s.1 s.2) (fun s => 0 ≤ s.1 ∧ s.1 ≤ 64 ∧ s.2.length = 64) (fun c => match c with | .next s => s.2.length = 64 | .ret _ => False) (fun s => (64 - s.1).toNat)
    (fun s ⟨q1, q2, q3⟩ => by
      by_cases h : s.1 < 64
      · obtain ⟨w', e1, e2⟩ := schedule_round b hb s.1 s.2 ⟨q1, h⟩ q3
        exact .inl ⟨_, e1, ⟨by show 0 ≤ s.1 + 1; omega, by show s.1 + 1 ≤ 64; omega, e2⟩, by show (64 - (s.1 + 1)).toNat < (64 - s.1).toNat; omega⟩
      · exact .inr (.inl ⟨s, by unfold sha_schedule.b1; rw [if_neg (by simpa using h)], q3⟩)) ((64 - 0 : Int).toNat + 2) (0, List.replicate 64 0) ⟨by decide, by decide, by simp⟩ (by decide)
  unfold sha_schedule
  rw [h1]
  cases c with
  | ret r => exact h2.elim
  | next s => exact ⟨s.2, rfl, h2⟩
theorem block_total (h : List Int) (b : List UInt8) (hh : h.length = 8) : ∃ h', sha_Block h b = some h' ∧ h'.length = 8 := by
  unfold sha_Block
  by_cases hb : b.length = 64
  · rw [if_neg (by simp [hb])]
    obtain ⟨w, e1, e2⟩ := schedule_total b hb
    rw [e1, Option.bind_some]
    obtain ⟨c, h1, h2⟩ := loop_ok (body := fun s : Int × List Int => sha_Block.b1 w s.1 s.2) (fun s => 0 ≤ s.1 ∧ s.1 ≤ 64 ∧ s.2.length = 8) (fun c => match c with | .next s => s.2.length = 8 | .ret _ => False) (fun s => (64 - s.1).toNat)
      (fun s ⟨q1, q2, q3⟩ => by
        by_cases h : s.1 < 64
        · refine .inl ?_
          show ∃ s', sha_Block.b1 w s.1 s.2 = some (.cont s') ∧ _
          unfold sha_Block.b1
          rw [if_pos (by simpa using h)]
          simp only [bits_RotateLeft32, Option.bind_some]
          rw [if_pos (by omega)]
          simp (disch := omega) only [w64]
          refine ⟨_, rfl, ⟨by show 0 ≤ s.1 + 1; omega, by show s.1 + 1 ≤ 64; omega, ?_⟩, by show (64 - (s.1 + 1)).toNat < (64 - s.1).toNat; omega⟩
          simp [q3]
        · exact .inr (.inl ⟨s, by unfold sha_Block.b1; rw [if_neg (by simpa using h)], q3⟩)) ((64 - 0 : Int).toNat + 2) (0, h) ⟨by simp, by simp, hh⟩ (by simp)
    rw [h1]
    cases c with
    | ret r => exact h2.elim
    | next s =>
      obtain ⟨i, y⟩ := s
      have h2 : y.length = 8 := h2
      simp only [Option.bind_some]
      obtain ⟨c, h3, h4⟩ := loop_ok (body := fun s : Int × List Int => sha_Block.b2 h s.1 s.2) (fun s => 0 ≤ s.1 ∧ s.1 ≤ 8 ∧ s.2.length = 8) (fun c => match c with | .next s => s.2.length = 8 | .ret _ => False) (fun s => (8 - s.1).toNat)
        (fun s ⟨q1, q2, q3⟩ => by
          by_cases h : s.1 < 8
          · refine .inl ?_
            show ∃ s', sha_Block.b2 _ s.1 s.2 = some (.cont s') ∧ _
            unfold sha_Block.b2
            rw [if_pos (by simpa using h), if_pos (by omega)]
            simp (disch := omega) only [w64]
            exact ⟨_, rfl, ⟨by show 0 ≤ s.1 + 1; omega, by show s.1 + 1 ≤ 8; omega, by simp [q3]⟩, by show (8 - (s.1 + 1)).toNat < (8 - s.1).toNat; omega⟩
          · exact .inr (.inl ⟨s, by unfold sha_Block.b2; rw [if_neg (by simpa using h)], q3⟩)) ((8 - 0 : Int).toNat + 2) (0, y) ⟨by simp, by simp, h2⟩ (by simp)
      rw [h3]
      cases c with
      | ret r => exact h4.elim
      | next s => exact ⟨s.2, rfl, h4⟩
  · rw [if_pos (by simp; omega)]
    exact ⟨h, rfl, hh⟩
theorem add_total (st : S_sha_State) (l : List UInt8) (hw : st.f_Words.length = 8) (hl : st.f_Rest.length + l.length ≤ mxl) : ∃ st', sha_State_Add st l = some st' ∧ st'.f_Words.length = 8 ∧ st'.f_Rest.length < 64 := by
  unfold sha_State_Add
  rw [if_pos hl]
  obtain ⟨c, h1, h2⟩ := loop_ok (body := fun s : List UInt8 × S_sha_State => sha_State_Add.b1 s.1 s.2) (fun s => s.2.f_Words.length = 8) (fun c => match c with | .next s => s.1.length < 64 ∧ s.2.f_Words.length = 8 | .ret _ => False) (fun s => s.1.length / 64)
    (fun s q => by
      by_cases h : 64 ≤ s.1.length
      · refine .inl ?_
        show ∃ s', sha_State_Add.b1 s.1 s.2 = some (.cont s') ∧ _
        unfold sha_State_Add.b1
        rw [if_pos (by simp; omega), if_pos (by omega)]
        obtain ⟨h', e1, e2⟩ := block_total s.2.f_Words ((s.1.take 64).drop (0 : Int).toNat) q
        rw [e1, Option.bind_some, if_pos (by omega)]
        refine ⟨_, rfl, e2, ?_⟩
        simp
        omega
      · exact .inr (.inl ⟨s, by unfold sha_State_Add.b1; rw [if_neg (by simp; omega)], by show s.1.length < 64; omega, q⟩)) ((((st.f_Rest ++ l).length : Int) - 64 : Int).toNat + 2) (st.f_Rest ++ l, S_sha_State.mk st.f_Words st.f_Rest (IntKind.wrap .u64 (st.f_Count + (IntKind.wrap .u64 (l.length : Int))))) hw (by simp only [List.length_append]; omega)
  rw [h1]
  cases c with
  | ret r => exact h2.elim
  | next s => exact ⟨_, rfl, h2.2, h2.1⟩
theorem end_total (st : S_sha_State) (hw : st.f_Words.length = 8) (hr : st.f_Rest.length < 64) : ∃ d, sha_State_End st = some d ∧ d.length = 32 := by
  unfold sha_State_End
  obtain ⟨c, h1, h2⟩ := loop_ok (body := fun s : Int × List UInt8 => sha_State_End.b1 st s.1 s.2) (fun s => 0 ≤ s.1 ∧ s.1 ≤ 8 ∧ s.2.length = 8) (fun c => match c with | .next s => s.2.length = 8 | .ret _ => False) (fun s => (8 - s.1).toNat)
    (fun s ⟨q1, q2, q3⟩ => by
      by_cases h : s.1 < 8
      · refine .inl ?_
        show ∃ s', sha_State_End.b1 st s.1 s.2 = some (.cont s') ∧ _
        unfold sha_State_End.b1
        simp (disch := omega) only [w64]
        rw [if_pos (by simpa using h), if_pos (by omega), if_pos (by omega)]
        exact ⟨_, rfl, ⟨by show 0 ≤ s.1 + 1; omega, by show s.1 + 1 ≤ 8; omega, by simp [q3]⟩, by show (8 - (s.1 + 1)).toNat < (8 - s.1).toNat; omega⟩
      · exact .inr (.inl ⟨s, by unfold sha_State_End.b1; rw [if_neg (by simpa using h)], q3⟩)) ((8 - 0 : Int).toNat + 2) (0, List.replicate 8 0) ⟨by simp, by simp, by simp⟩ (by simp)
  rw [h1]
  cases c with
  | ret r => exact h2.elim
  | next s =>
    obtain ⟨i, y⟩ := s
    have h2 : y.length = 8 := h2
    simp only [Option.bind_some]
    have ht : (st.f_Rest.length : Int).tmod 64 = st.f_Rest.length := by rw [Int.tmod_eq_emod_of_nonneg (by omega)]; omega
    have hwr : IntKind.wrap .i64 (119 - ((st.f_Rest.length : Int).tmod 64)) = 119 - st.f_Rest.length := by rw [ht]; exact w64 (by omega)
    rw [hwr]
    have ht2 : (119 - (st.f_Rest.length : Int)).tmod 64 = (119 - (st.f_Rest.length : Int)) % 64 := Int.tmod_eq_emod_of_nonneg (by omega)
    rw [ht2]
    have hrep : ∀ n : Nat, (Lib.repeatL [0] n).length = n := fun n => by rw [Lib.repeatL_length]; simp
    rw [if_pos (by simp; omega), if_pos (by rw [hrep]; simp [mxl]; omega), if_pos (by rw [List.length_append, hrep]; simp [mxl]; omega)]
    obtain ⟨st', e1, e2, e3⟩ := add_total st (([128] ++ (Lib.repeatL [0] ((119 - (st.f_Rest.length : Int)) % 64).toNat)) ++ (y.take ((8 : Int).toNat - (0 : Int).toNat))) hw (by simp only [List.length_append, hrep]; simp [mxl]; omega)
    rw [e1, Option.bind_some]
    obtain ⟨c, h3, h4⟩ := loop_ok (body := fun s : Int × List UInt8 => sha_State_End.b2 st' s.1 s.2) (fun s => 0 ≤ s.1 ∧ s.1 ≤ 8 ∧ s.2.length = 32) (fun c => match c with | .next s => s.2.length = 32 | .ret _ => False) (fun s => (8 - s.1).toNat)
      (fun s ⟨q1, q2, q3⟩ => by
        by_cases h : s.1 < 8
        · refine .inl ?_
          show ∃ s', sha_State_End.b2 st' s.1 s.2 = some (.cont s') ∧ _
          unfold sha_State_End.b2
          rw [if_pos (by simpa using h), if_pos (by omega)]
          obtain ⟨c, h5, h6⟩ := loop_ok (body := fun t : Int × List UInt8 => sha_State_End.b3 st' s.1 t.1 t.2) (fun t => 0 ≤ t.1 ∧ t.1 ≤ 4 ∧ t.2.length = 32) (fun c => match c with | .next t => t.2.length = 32 | .ret _ => False) (fun t => (4 - t.1).toNat)
            (fun t ⟨r1, r2, r3⟩ => by
              by_cases h' : t.1 < 4
              · refine .inl ?_
                show ∃ s', sha_State_End.b3 st' s.1 t.1 t.2 = some (.cont s') ∧ _
                unfold sha_State_End.b3
                simp (disch := omega) only [w64]
                rw [if_pos (by simpa using h'), if_pos (by omega), if_pos (by omega)]
                exact ⟨_, rfl, ⟨by show 0 ≤ t.1 + 1; omega, by show t.1 + 1 ≤ 4; omega, by simp [r3]⟩, by show (4 - (t.1 + 1)).toNat < (4 - t.1).toNat; omega⟩
              · exact .inr (.inl ⟨t, by unfold sha_State_End.b3; rw [if_neg (by simpa using h')], r3⟩)) ((4 - 0 : Int).toNat + 2) (0, s.2) ⟨by simp, by simp, q3⟩ (by simp)
          rw [h5]
          cases c with
          | ret r => exact h6.elim
          | next t =>
            simp (disch := omega) only [w64, Option.bind_some]
            exact ⟨_, rfl, ⟨by show 0 ≤ s.1 + 1; omega, by show s.1 + 1 ≤ 8; omega, h6⟩, by show (8 - (s.1 + 1)).toNat < (8 - s.1).toNat; omega⟩
        · exact .inr (.inl ⟨s, by unfold sha_State_End.b2; rw [if_neg (by simpa using h)], q3⟩)) ((8 - 0 : Int).toNat + 2) (0, List.replicate 32 0) ⟨by simp, by simp, by simp⟩ (by simp)
    rw [h3]
    cases c with
    | ret r => exact h4.elim
    | next s => exact ⟨s.2, rfl, h4⟩
theorem sum_total (l : List UInt8) (hl : l.length ≤ mxl) : ∃ d, sha_Sum [l] = some d ∧ d.length = 32 := by
  unfold sha_Sum sha_Begin
  rw [Option.bind_some]
  obtain ⟨st, e1, e2, e3⟩ := add_total (S_sha_State.mk gFirst [] 0) l (by simp [gFirst]) (by simpa using hl)
  have hloop : loopN (fun s : Int × S_sha_State => sha_Sum.b1 [l] s.1 s.2) (((([l] : List (List UInt8)).length : Int) - 0 : Int).toNat + 2) (0, S_sha_State.mk gFirst [] 0) = some (.next (1, st)) := by
    show loopN _ 3 _ = _
    unfold loopN
    have hb0 : sha_Sum.b1 [l] 0 (S_sha_State.mk gFirst [] 0) = some (.cont (1, st)) := by
      unfold sha_Sum.b1
      rw [if_pos (by simp), if_pos (by simp)]
      have : ([l] : List (List UInt8)).getD (0 : Int).toNat default = l := rfl
      rw [this, e1, Option.bind_some]
      rfl
    have hb1 : sha_Sum.b1 [l] 1 st = some (.brk (1, st)) := by
      unfold sha_Sum.b1
      rw [if_neg (by simp)]
    simp only [hb0]
    unfold loopN
    simp only [hb1]
  rw [hloop]
  obtain ⟨d, h1, h2⟩ := end_total st e2 e3
  exact ⟨d, by simp only [Option.bind_some, h1], h2⟩
end Go.Proofs.YtnjkofmmpfehcaaDoorR
