/- Plain laws: P1, P2, P4, P7, as one text. -/
import Derived.Test.YteboiefnflipjaaGreatDoorG7
import Derived.Laws.BitsLemmas
namespace Go.Proofs.YteboiefnflipjaaGreatDoor
open Go Go.RowKit Go.Proofs
section
set_option linter.unusedVariables false

theorem Ax {α β : Type} {o : Option α} {f : α → Option β} {x : α} {r : Option β} (h : o = some x) (h2 : f x = r) : o.bind f = r := by subst h; exact h2
theorem Bz {R S T : Type} {o : Option (QW R S)} {k : QW R S → Option T} {s : S} {r : Option T} (h : o = some (.next s)) (h2 : k (.next s) = r) : o.bind k = r := by subst h; exact h2
theorem B7 {R S : Type} {body : S → Option (Cn R S)} (I : S → Prop) (Q : QW R S → Prop) (m : S → Nat)
    (h : ∀ s, I s → (∃ s', body s = some (.cont s') ∧ I s' ∧ m s' < m s) ∨ (∃ s', body s = some (.brk s') ∧ Q (.next s')) ∨ ∃ r, body s = some (.ret r) ∧ Q (.ret r)) :
    ∀ (k : Nat) (s : S), I s → m s < k → ∃ c, Bu body k s = some c ∧ Q c
  | 0, s, _, hk => by omega
  | k + 1, s, hI, hk => by
    unfold Bu
    rcases h s hI with ⟨s', h1, h2, h3⟩ | ⟨s', h1, h2⟩ | ⟨r, h1, h2⟩
    · rw [h1]; exact B7 I Q m h k s' h2 (by omega)
    · rw [h1]; exact ⟨_, rfl, h2⟩
    · rw [h1]; exact ⟨_, rfl, h2⟩
theorem Er {x : Int} (h : -9223372036854775808 ≤ x ∧ x ≤ 9223372036854775807) : IntKind.wrap .i64 x = x := by
  simp only [IntKind.wrap, IntKind.bits, IntKind.signed]
  simp
  omega
theorem JX (b : List UInt8) (hb : b.length = 64) (i : Int) (w : List Int) (hi : 0 ≤ i ∧ i < 64) (hw : w.length = 64) : ∃ w', BY.b1 b i w = some (.cont (i + 1, w')) ∧ w'.length = 64 := by
  unfold BY.b1
  rw [if_pos (by simpa using hi.2)]
  by_cases h16 : i < 16
  · rw [if_pos (by simpa using h16)]
    simp (disch := omega) only [Er]
    have hlen : ((b.take (4 * i + 4).toNat).drop (4 * i).toNat).length = 4 := by simp; omega
    rw [if_pos (by omega), if_pos (by rw [hlen]; omega), if_pos (by rw [hlen]; omega), if_pos (by rw [hlen]; omega), if_pos (by rw [hlen]; omega), if_pos (by omega)]
    exact ⟨_, rfl, by simp [hw]⟩
  · rw [if_neg (by simpa using h16)]
    simp (disch := omega) only [Er]
    rw [if_pos (by omega), if_pos (by omega)]
    simp only [Bs, Option.bind_some]
    rw [if_pos (by omega), if_pos (by omega), if_pos (by omega)]
    exact ⟨_, rfl, by simp [hw]⟩
theorem JW (b : List UInt8) (hb : b.length = 64) : ∃ w, BY b = some w ∧ w.length = 64 := by
  obtain ⟨c, h1, h2⟩ := B7 (body := fun s : Int × List Int => BY.b1 b s.1 s.2) (fun s => 0 ≤ s.1 ∧ s.1 ≤ 64 ∧ s.2.length = 64) (fun c => match c with | .next s => s.2.length = 64 | .ret _ => False) (fun s => (64 - s.1).toNat)
    (fun s ⟨q1, q2, q3⟩ => by
      by_cases h : s.1 < 64
      · obtain ⟨w', e1, e2⟩ := JX b hb s.1 s.2 ⟨q1, h⟩ q3
        exact .inl ⟨_, e1, ⟨by show 0 ≤ s.1 + 1; omega, by show s.1 + 1 ≤ 64; omega, e2⟩, by show (64 - (s.1 + 1)).toNat < (64 - s.1).toNat; omega⟩
      · exact .inr (.inl ⟨s, by unfold BY.b1; rw [if_neg (by simpa using h)], q3⟩)) ((64 - 0 : Int).toNat + 2) (0, List.replicate 64 0) ⟨by decide, by decide, by simp⟩ (by decide)
  unfold BY
  rw [h1]
  cases c with
  | ret r => exact h2.elim
  | next s => exact ⟨s.2, rfl, h2⟩
theorem MD (h : List Int) (b : List UInt8) (hh : h.length = 8) : ∃ h', BP h b = some h' ∧ h'.length = 8 := by
  unfold BP
  by_cases hb : b.length = 64
  · rw [if_neg (by simp [hb])]
    obtain ⟨w, e1, e2⟩ := JW b hb
    rw [e1, Option.bind_some]
    obtain ⟨c, h1, h2⟩ := B7 (body := fun s : Int × List Int => BP.b1 w s.1 s.2) (fun s => 0 ≤ s.1 ∧ s.1 ≤ 64 ∧ s.2.length = 8) (fun c => match c with | .next s => s.2.length = 8 | .ret _ => False) (fun s => (64 - s.1).toNat)
      (fun s ⟨q1, q2, q3⟩ => by
        by_cases h : s.1 < 64
        · refine .inl ?_
          show ∃ s', BP.b1 w s.1 s.2 = some (.cont s') ∧ _
          unfold BP.b1
          rw [if_pos (by simpa using h)]
          simp only [Bs, Option.bind_some]
          rw [if_pos (by omega)]
          simp (disch := omega) only [Er]
          refine ⟨_, rfl, ⟨by show 0 ≤ s.1 + 1; omega, by show s.1 + 1 ≤ 64; omega, ?_⟩, by show (64 - (s.1 + 1)).toNat < (64 - s.1).toNat; omega⟩
          simp [q3]
        · exact .inr (.inl ⟨s, by unfold BP.b1; rw [if_neg (by simpa using h)], q3⟩)) ((64 - 0 : Int).toNat + 2) (0, h) ⟨by simp, by simp, hh⟩ (by simp)
    rw [h1]
    cases c with
    | ret r => exact h2.elim
    | next s =>
      obtain ⟨i, y⟩ := s
      have h2 : y.length = 8 := h2
      simp only [Option.bind_some]
      obtain ⟨c, h3, h4⟩ := B7 (body := fun s : Int × List Int => BP.b2 h s.1 s.2) (fun s => 0 ≤ s.1 ∧ s.1 ≤ 8 ∧ s.2.length = 8) (fun c => match c with | .next s => s.2.length = 8 | .ret _ => False) (fun s => (8 - s.1).toNat)
        (fun s ⟨q1, q2, q3⟩ => by
          by_cases h : s.1 < 8
          · refine .inl ?_
            show ∃ s', BP.b2 _ s.1 s.2 = some (.cont s') ∧ _
            unfold BP.b2
            rw [if_pos (by simpa using h), if_pos (by omega)]
            simp (disch := omega) only [Er]
            exact ⟨_, rfl, ⟨by show 0 ≤ s.1 + 1; omega, by show s.1 + 1 ≤ 8; omega, by simp [q3]⟩, by show (8 - (s.1 + 1)).toNat < (8 - s.1).toNat; omega⟩
          · exact .inr (.inl ⟨s, by unfold BP.b2; rw [if_neg (by simpa using h)], q3⟩)) ((8 - 0 : Int).toNat + 2) (0, y) ⟨by simp, by simp, h2⟩ (by simp)
      rw [h3]
      cases c with
      | ret r => exact h4.elim
      | next s => exact ⟨s.2, rfl, h4⟩
  · rw [if_pos (by simp; omega)]
    exact ⟨h, rfl, hh⟩
theorem Lg (st : AO) (l : List UInt8) (hw : st.Cb.length = 8) (hl : st.B3.length + l.length ≤ CW) : ∃ st', BX st l = some st' ∧ st'.Cb.length = 8 ∧ st'.B3.length < 64 := by
  unfold BX
  rw [if_pos hl]
  obtain ⟨c, h1, h2⟩ := B7 (body := fun s : List UInt8 × AO => BX.b1 s.1 s.2) (fun s => s.2.Cb.length = 8) (fun c => match c with | .next s => s.1.length < 64 ∧ s.2.Cb.length = 8 | .ret _ => False) (fun s => s.1.length / 64)
    (fun s q => by
      by_cases h : 64 ≤ s.1.length
      · refine .inl ?_
        show ∃ s', BX.b1 s.1 s.2 = some (.cont s') ∧ _
        unfold BX.b1
        rw [if_pos (by simp; omega), if_pos (by omega)]
        obtain ⟨h', e1, e2⟩ := MD s.2.Cb ((s.1.take 64).drop (0 : Int).toNat) q
        rw [e1, Option.bind_some, if_pos (by omega)]
        refine ⟨_, rfl, e2, ?_⟩
        simp
        omega
      · exact .inr (.inl ⟨s, by unfold BX.b1; rw [if_neg (by simp; omega)], by show s.1.length < 64; omega, q⟩)) ((((st.B3 ++ l).length : Int) - 64 : Int).toNat + 2) (st.B3 ++ l, AO.mk st.Cb st.B3 (IntKind.wrap .u64 (st.Cz + (IntKind.wrap .u64 (l.length : Int))))) hw (by simp only [List.length_append]; omega)
  rw [h1]
  cases c with
  | ret r => exact h2.elim
  | next s => exact ⟨_, rfl, h2.2, h2.1⟩
theorem On (st : AO) (hw : st.Cb.length = 8) (hr : st.B3.length < 64) : ∃ d, A7 st = some d ∧ d.length = 32 := by
  unfold A7
  obtain ⟨c, h1, h2⟩ := B7 (body := fun s : Int × List UInt8 => A7.b1 st s.1 s.2) (fun s => 0 ≤ s.1 ∧ s.1 ≤ 8 ∧ s.2.length = 8) (fun c => match c with | .next s => s.2.length = 8 | .ret _ => False) (fun s => (8 - s.1).toNat)
    (fun s ⟨q1, q2, q3⟩ => by
      by_cases h : s.1 < 8
      · refine .inl ?_
        show ∃ s', A7.b1 st s.1 s.2 = some (.cont s') ∧ _
        unfold A7.b1
        simp (disch := omega) only [Er]
        rw [if_pos (by simpa using h), if_pos (by omega), if_pos (by omega)]
        exact ⟨_, rfl, ⟨by show 0 ≤ s.1 + 1; omega, by show s.1 + 1 ≤ 8; omega, by simp [q3]⟩, by show (8 - (s.1 + 1)).toNat < (8 - s.1).toNat; omega⟩
      · exact .inr (.inl ⟨s, by unfold A7.b1; rw [if_neg (by simpa using h)], q3⟩)) ((8 - 0 : Int).toNat + 2) (0, List.replicate 8 0) ⟨by simp, by simp, by simp⟩ (by simp)
  rw [h1]
  cases c with
  | ret r => exact h2.elim
  | next s =>
    obtain ⟨i, y⟩ := s
    have h2 : y.length = 8 := h2
    simp only [Option.bind_some]
    have ht : (st.B3.length : Int).tmod 64 = st.B3.length := by rw [Int.tmod_eq_emod_of_nonneg (by omega)]; omega
    have hwr : IntKind.wrap .i64 (119 - ((st.B3.length : Int).tmod 64)) = 119 - st.B3.length := by rw [ht]; exact Er (by omega)
    rw [hwr]
    have ht2 : (119 - (st.B3.length : Int)).tmod 64 = (119 - (st.B3.length : Int)) % 64 := Int.tmod_eq_emod_of_nonneg (by omega)
    rw [ht2]
    have hrep : ∀ n : Nat, (Lib.repeatL [0] n).length = n := fun n => by rw [Lib.repeatL_length]; simp
    rw [if_pos (by simp; omega), if_pos (by rw [hrep]; simp [CW]; omega), if_pos (by rw [List.length_append, hrep]; simp [CW]; omega)]
    obtain ⟨st', e1, e2, e3⟩ := Lg st (([128] ++ (Lib.repeatL [0] ((119 - (st.B3.length : Int)) % 64).toNat)) ++ (y.take ((8 : Int).toNat - (0 : Int).toNat))) hw (by simp only [List.length_append, hrep]; simp [CW]; omega)
    rw [e1, Option.bind_some]
    obtain ⟨c, h3, h4⟩ := B7 (body := fun s : Int × List UInt8 => A7.b2 st' s.1 s.2) (fun s => 0 ≤ s.1 ∧ s.1 ≤ 8 ∧ s.2.length = 32) (fun c => match c with | .next s => s.2.length = 32 | .ret _ => False) (fun s => (8 - s.1).toNat)
      (fun s ⟨q1, q2, q3⟩ => by
        by_cases h : s.1 < 8
        · refine .inl ?_
          show ∃ s', A7.b2 st' s.1 s.2 = some (.cont s') ∧ _
          unfold A7.b2
          rw [if_pos (by simpa using h), if_pos (by omega)]
          obtain ⟨c, h5, h6⟩ := B7 (body := fun t : Int × List UInt8 => A7.b3 st' s.1 t.1 t.2) (fun t => 0 ≤ t.1 ∧ t.1 ≤ 4 ∧ t.2.length = 32) (fun c => match c with | .next t => t.2.length = 32 | .ret _ => False) (fun t => (4 - t.1).toNat)
            (fun t ⟨r1, r2, r3⟩ => by
              by_cases h' : t.1 < 4
              · refine .inl ?_
                show ∃ s', A7.b3 st' s.1 t.1 t.2 = some (.cont s') ∧ _
                unfold A7.b3
                simp (disch := omega) only [Er]
                rw [if_pos (by simpa using h'), if_pos (by omega), if_pos (by omega)]
                exact ⟨_, rfl, ⟨by show 0 ≤ t.1 + 1; omega, by show t.1 + 1 ≤ 4; omega, by simp [r3]⟩, by show (4 - (t.1 + 1)).toNat < (4 - t.1).toNat; omega⟩
              · exact .inr (.inl ⟨t, by unfold A7.b3; rw [if_neg (by simpa using h')], r3⟩)) ((4 - 0 : Int).toNat + 2) (0, s.2) ⟨by simp, by simp, q3⟩ (by simp)
          rw [h5]
          cases c with
          | ret r => exact h6.elim
          | next t =>
            simp (disch := omega) only [Er, Option.bind_some]
            exact ⟨_, rfl, ⟨by show 0 ≤ s.1 + 1; omega, by show s.1 + 1 ≤ 8; omega, h6⟩, by show (8 - (s.1 + 1)).toNat < (8 - s.1).toNat; omega⟩
        · exact .inr (.inl ⟨s, by unfold A7.b2; rw [if_neg (by simpa using h)], q3⟩)) ((8 - 0 : Int).toNat + 2) (0, List.replicate 32 0) ⟨by simp, by simp, by simp⟩ (by simp)
    rw [h3]
    cases c with
    | ret r => exact h4.elim
    | next s => exact ⟨s.2, rfl, h4⟩
theorem N3 (l : List UInt8) (hl : l.length ≤ CW) : ∃ d, C6 [l] = some d ∧ d.length = 32 := by
  unfold C6 GP
  rw [Option.bind_some]
  obtain ⟨st, e1, e2, e3⟩ := Lg (AO.mk Fl [] 0) l (by simp [Fl]) (by simpa using hl)
  have hloop : Bu (fun s : Int × AO => C6.b1 [l] s.1 s.2) (((([l] : List (List UInt8)).length : Int) - 0 : Int).toNat + 2) (0, AO.mk Fl [] 0) = some (.next (1, st)) := by
    show Bu _ 3 _ = _
    unfold Bu
    have hb0 : C6.b1 [l] 0 (AO.mk Fl [] 0) = some (.cont (1, st)) := by
      unfold C6.b1
      rw [if_pos (by simp), if_pos (by simp)]
      have : ([l] : List (List UInt8)).getD (0 : Int).toNat default = l := rfl
      rw [this, e1, Option.bind_some]
      rfl
    have hb1 : C6.b1 [l] 1 st = some (.brk (1, st)) := by
      unfold C6.b1
      rw [if_neg (by simp)]
    simp only [hb0]
    unfold Bu
    simp only [hb1]
  rw [hloop]
  obtain ⟨d, h1, h2⟩ := On st e2 e3
  exact ⟨d, by simp only [Option.bind_some, h1], h2⟩
end

section
set_option linter.unusedVariables false

/-- A length, in four bytes. -/
def HC (n : Int) : List UInt8 := [B5 (IntKind.wrap .u8 (shr .u64 n 24)), B5 (IntKind.wrap .u8 (shr .u64 n 16)), B5 (IntKind.wrap .u8 (shr .u64 n 8)), B5 (IntKind.wrap .u8 (shr .u64 n 0))]
theorem Rx (n : Int) : ES n 4 = some (HC n) := rfl
theorem Oy {x : Int} (h : 0 ≤ x ∧ x < 4294967296) : IntKind.wrap .u32 x = x := by
  simp only [IntKind.wrap, IntKind.bits, IntKind.signed]
  simp
  omega
theorem Ih {x : Int} (h : 0 ≤ x ∧ x < 18446744073709551616) : IntKind.wrap .u64 x = x := by
  simp only [IntKind.wrap, IntKind.bits, IntKind.signed]
  simp
  omega
theorem byteOf {n : Nat} {q : Nat} {k : Int} (hk : (2 : Int) ^ (min k.toNat IntKind.u64.bits) = q) (hq : 0 < q) : (B5 (IntKind.wrap .u8 (shr .u64 (n : Int) k))).toNat = n / q % 256 := by
  unfold shr
  rw [hk, Int.fdiv_eq_ediv_of_nonneg _ (by omega)]
  have h1 : ((n : Int) / (q : Int)) = ((n / q : Nat) : Int) := by simp
  rw [h1]
  generalize n / q = m
  simp only [IntKind.wrap, IntKind.bits, IntKind.signed, B5]
  simp
  omega
theorem Ik (p : List UInt8) (h : p.length < 4294967296) : EH p = some (HC p.length ++ p) := by
  unfold EH Dn
  rw [Oy (by omega), Ih (by omega), Rx]
  simp only [Option.bind_some]
  rw [if_pos (by simp only [HC, List.length_cons, List.length_nil, CW]; omega)]
/-- Parts, each behind its length. -/
def enc : List (List UInt8) → List UInt8
  | [] => []
  | p :: ps => HC p.length ++ p ++ enc ps
theorem FC : ∀ (ps qs : List (List UInt8)), enc (ps ++ qs) = enc ps ++ enc qs
  | [], qs => rfl
  | p :: ps, qs => by simp [enc, FC ps qs]
theorem LI (ps : List (List UInt8)) (i : Nat) : (enc (ps.take i)).length ≤ (enc ps).length := by
  have := FC (ps.take i) (ps.drop i)
  rw [List.take_append_drop] at this
  rw [this]; simp
theorem Pf (d : Int) (ps : List (List UInt8)) (hp : ∀ p ∈ ps, p.length < 4294967296) (hl : (enc ps).length + 1 ≤ 140737488355328) (hn : ps.length < 4294967296) : CU d ps = some (B5 d :: enc ps) := by
  unfold CU Dt
  rw [if_pos (by simp [CW])]
  simp only [Option.bind_some]
  obtain ⟨c, h1, h2⟩ := B7 (body := fun s : Int × Ea => CU.b1 ps s.1 s.2) (fun s => ∃ i : Nat, i ≤ ps.length ∧ s = ((i : Int), ⟨B5 d :: enc (ps.take i)⟩)) (fun c => match c with | .next s => s.2 = ⟨B5 d :: enc ps⟩ | .ret _ => False) (fun s => (ps.length - s.1).toNat)
    (fun s ⟨i, hi, hs⟩ => by
      subst hs
      by_cases h : i < ps.length
      · refine .inl ?_
        show ∃ s', CU.b1 ps (i : Int) ⟨B5 d :: enc (ps.take i)⟩ = some (.cont s') ∧ _
        unfold CU.b1
        rw [if_pos (by simpa using h), if_pos (by omega)]
        have hg : ps.getD (i : Int).toNat default = ps[i] := by simp [List.getD, h]
        rw [hg, Ik _ (hp _ (List.getElem_mem h)), Option.bind_some]
        unfold De
        have he : enc (ps.take (i + 1)) = enc (ps.take i) ++ (HC (ps[i].length : Int) ++ ps[i]) := by
          rw [List.take_succ_eq_append_getElem h, FC]; simp [enc]
        have hlen := LI ps (i + 1)
        rw [he] at hlen
        simp only [List.length_append] at hlen
        rw [if_pos (by simp only [List.length_cons, List.length_append, CW]; omega), Option.bind_some]
        simp (disch := omega) only [Er]
        refine ⟨_, rfl, ⟨i + 1, by omega, ?_⟩, by show (ps.length - ((i : Int) + 1)).toNat < (ps.length - (i : Int)).toNat; omega⟩
        rw [he]; simp
      · have hi' : i = ps.length := by omega
        subst hi'
        exact .inr (.inl ⟨_, by show CU.b1 ps _ _ = _; unfold CU.b1; rw [if_neg (by simp)], by simp⟩)) (((ps.length : Int) - 0 : Int).toNat + 2) (0, ⟨[] ++ [B5 d]⟩) ⟨0, by omega, by simp [enc]⟩ (by simp)
  rw [h1]
  cases c with
  | ret r => exact h2.elim
  | next s =>
    obtain ⟨i, y⟩ := s
    have h2 : y = ⟨B5 d :: enc ps⟩ := h2
    subst h2
    simp only [Option.bind_some, C2]
    rw [if_pos (by simp)]
    rfl
end

section
set_option linter.unusedVariables false

def iter {σ : Type} (f : Nat → σ → σ) : Nat → Nat → σ → σ
  | _, 0, s => s
  | i, m + 1, s => iter f (i + 1) m (f i s)
theorem Mw {σ : Type} (f : Nat → σ → σ) : ∀ (m n i : Nat) (s : σ), iter f i (m + n) s = iter f (i + m) n (iter f i m s)
  | 0, n, i, s => by simp [iter]
  | m + 1, n, i, s => by
    rw [Nat.add_right_comm, iter, Mw f m n (i + 1) (f i s)]
    simp [iter, Nat.add_assoc, Nat.add_comm 1 m]
/-- A counting loop. -/
theorem FO {R σ : Type} {body : Int × σ → Option (Cn R (Int × σ))} (I : σ → Prop) (f : Nat → σ → σ) (n : Nat)
    (hs : ∀ (i : Nat) (s : σ), i < n → I s → body ((i : Int), s) = some (.cont (((i + 1 : Nat) : Int), f i s)) ∧ I (f i s)) (he : ∀ s, body ((n : Int), s) = some (.brk ((n : Int), s))) :
    ∀ (m i : Nat) (s : σ) (k : Nat), i + m = n → I s → m < k → Bu body k ((i : Int), s) = some (.next ((n : Int), iter f i m s)) ∧ I (iter f i m s)
  | 0, i, s, k + 1, h, hI, _ => by
    have : i = n := by omega
    subst this
    unfold Bu
    rw [he]
    exact ⟨rfl, hI⟩
  | m + 1, i, s, k + 1, h, hI, hk => by
    obtain ⟨h1, h2⟩ := hs i s (by omega) hI
    unfold Bu
    rw [h1]
    exact FO I f n hs he m (i + 1) (f i s) k (by omega) h2 (by omega)
theorem Es (a b : Int) : bits .or .u32 a b = bits .or .u32 b a := by
  simp only [bits]
  rw [BitVec.or_comm]
theorem HI (n : Int) (h₀ : 0 ≤ n) (h₁ : n < 2 ^ 32) : IntKind.u32.wrap n = n := by rw [IntKind.wrap_u32]; omega
theorem PQ (b0 b1 b2 b3 : Nat) (h0 : b0 < 256) (h1 : b1 < 256) (h2 : b2 < 256) (h3 : b3 < 256) :
    bits .or .u32 (bits .or .u32 (bits .or .u32 (shl .u32 (IntKind.wrap .u32 (b0 : Int)) 24) (shl .u32 (IntKind.wrap .u32 (b1 : Int)) 16)) (shl .u32 (IntKind.wrap .u32 (b2 : Int)) 8)) (IntKind.wrap .u32 (b3 : Int)) =
      IntKind.wrap .u32 ((IntKind.wrap .u32 ((IntKind.wrap .u32 ((IntKind.wrap .u32 ((IntKind.wrap .u32 (b0 : Int)) * 16777216)) + (IntKind.wrap .u32 ((IntKind.wrap .u32 (b1 : Int)) * 65536)))) + (IntKind.wrap .u32 ((IntKind.wrap .u32 (b2 : Int)) * 256)))) + (IntKind.wrap .u32 (b3 : Int))) := by
  have e24 : ∀ x : Int, shl .u32 x 24 = IntKind.wrap .u32 (x * 16777216) := fun x => rfl
  have e16 : ∀ x : Int, shl .u32 x 16 = IntKind.wrap .u32 (x * 65536) := fun x => rfl
  have e8 : ∀ x : Int, shl .u32 x 8 = IntKind.wrap .u32 (x * 256) := fun x => rfl
  rw [e24, e16, e8]
  simp (disch := omega) only [HI]
  rw [bits_join .u32 32 (by decide) HI 24 ((b0 : Int) * 16777216) ((b1 : Int) * 65536) (by omega) (by omega) (by omega) (by omega) (by omega) (by omega),
    bits_join .u32 32 (by decide) HI 16 ((b0 : Int) * 16777216 + (b1 : Int) * 65536) ((b2 : Int) * 256) (by omega) (by omega) (by omega) (by omega) (by omega) (by omega),
    bits_join .u32 32 (by decide) HI 8 ((b0 : Int) * 16777216 + (b1 : Int) * 65536 + (b2 : Int) * 256) (b3 : Int) (by omega) (by omega) (by omega) (by omega) (by omega) (by omega)]
end

section
set_option linter.unusedVariables false

noncomputable def H (x : List UInt8) : List UInt8 := Classical.epsilon fun d => C6 [x] = some d
theorem SG {x : List UInt8} (h : x.length ≤ 1000000) : C6 [x] = some (H x) ∧ (H x).length = 32 := by
  obtain ⟨d, h1, h2⟩ := N3 x (by simp [CW]; omega)
  have h3 : C6 [x] = some (H x) := Classical.epsilon_spec (p := fun d => C6 [x] = some d) ⟨d, h1⟩
  refine ⟨h3, ?_⟩
  rw [h1] at h3
  rw [← Option.some.inj h3]
  exact h2
def KJ (d : Int) (ps : List (List UInt8)) : List UInt8 := B5 d :: enc ps
/-- Bounds of the parts of an ask. -/
def Small (ps : List (List UInt8)) : Prop := (∀ p ∈ ps, p.length ≤ 5000) ∧ ps.length ≤ 20
theorem Small.enc {ps : List (List UInt8)} (h : Small ps) : (enc ps).length ≤ 20 * 5004 := by
  have : ∀ (ps : List (List UInt8)), (∀ p ∈ ps, p.length ≤ 5000) → (Go.Proofs.YteboiefnflipjaaGreatDoor.enc ps).length ≤ ps.length * 5004 := by
    intro ps
    induction ps with
    | nil => intro _; simp [Go.Proofs.YteboiefnflipjaaGreatDoor.enc]
    | cons p ps ih =>
      intro hp
      have h1 := ih fun q hq => hp q (by simp [hq])
      have h2 := hp p (by simp)
      simp only [Go.Proofs.YteboiefnflipjaaGreatDoor.enc, List.length_append, List.length_cons]
      simp [HC]
      omega
  exact Nat.le_trans (this ps h.1) (Nat.mul_le_mul_right _ h.2)
theorem Small.H {ps : List (List UInt8)} (h : Small ps) (d : Int) : C6 [KJ d ps] = some (H (KJ d ps)) ∧ (Go.Proofs.YteboiefnflipjaaGreatDoor.H (KJ d ps)).length = 32 :=
  SG (by have := h.enc; simp [KJ]; omega)
theorem Nb (L : Option AD) (g s : List UInt8) : ∃ L', Bv L g s = some L' ∧ (L = none → L' = none) := by
  cases L with
  | none => exact ⟨none, rfl, fun _ => rfl⟩
  | some L =>
    show ∃ L', Bv.s L g s = some L' ∧ _
    unfold Bv.s Bv.j1 Bv.j2
    repeat' split
    all_goals exact ⟨_, rfl, fun h => by cases h⟩
theorem PL (L : Option AD) (d : Int) {ps : List (List UInt8)} (h : Small ps) : ∃ L', C9 L d ps = some (H (KJ d ps), L') ∧ (L = none → L' = none) := by
  obtain ⟨L', h1, h2⟩ := Nb L (H (KJ d ps)) (KJ d ps)
  have he := h.enc
  refine ⟨L', ?_, h2⟩
  unfold C9
  exact Ax (Pf d ps (fun p hp => by have := h.1 p hp; omega) (by omega) (by have := h.2; omega)) (Ax (h.H d).1 (Ax h1 rfl))
def H0 (i : Int) : List UInt8 := HC (IntKind.wrap .u32 i)
def Sz (i : Int) : UInt8 := B5 (IntKind.wrap .u8 i)
theorem RI (i : Int) : IntKind.wrap .u8 (shr .u64 (IntKind.wrap .u64 (IntKind.wrap .u8 i)) 0) = IntKind.wrap .u8 i := by
  have h : 0 ≤ IntKind.wrap .u8 i ∧ IntKind.wrap .u8 i < 256 := by
    simp only [IntKind.wrap, IntKind.bits, IntKind.signed]; simp; omega
  rw [Ih (by omega)]
  have h2 : shr .u64 (IntKind.wrap .u8 i) 0 = IntKind.wrap .u8 i := by
    unfold shr; simp
  rw [h2]
  simp only [IntKind.wrap, IntKind.bits, IntKind.signed]; simp
theorem NQ (i : Int) : Gf (IntKind.wrap .u8 i) = some [Sz i] := by
  have h : ∀ n, ES n 1 = some [B5 (IntKind.wrap .u8 (shr .u64 n 0))] := fun _ => rfl
  unfold Gf
  rw [h]
  refine Ax rfl ?_
  rw [RI]
  rfl
theorem KY (i : Int) : Dn (IntKind.wrap .u32 i) = some (H0 i) := by
  unfold Dn
  have h : 0 ≤ IntKind.wrap .u32 i ∧ IntKind.wrap .u32 i < 4294967296 := by
    simp only [IntKind.wrap, IntKind.bits, IntKind.signed]; simp; omega
  rw [Ih (by omega), Rx]
  rfl
theorem F1 {x : List UInt8} (h : x.length = 32) : DC x = some x := by
  have : x.take ((32 : Int).toNat - (0 : Int).toNat) = x := List.take_of_length_le (by rw [h]; decide)
  unfold DC
  rw [this]
def P0 (seed : List UInt8) (idx i b : Int) : List (List UInt8) := [seed, H0 idx, [Sz i], [Sz b]]
theorem L9 {seed : List UInt8} (h : seed.length = 32) (idx i b : Int) : Small (P0 seed idx i b) := by
  refine ⟨fun p hp => ?_, by simp [P0]⟩
  simp only [P0, List.mem_cons, List.not_mem_nil, or_false] at hp
  rcases hp with rfl | rfl | rfl | rfl
  · omega
  · simp [H0, HC]
  · simp
  · simp
theorem Kg {s : List UInt8} (h : s.length = 32) : Small [s] := ⟨fun p hp => by rw [List.mem_singleton.1 hp]; omega, by simp⟩
noncomputable def sec (seed : List UInt8) (idx i b : Int) : List UInt8 := H (KJ 1 (P0 seed idx i b))
noncomputable def Hh (s : List UInt8) : List UInt8 := H (KJ 2 [s])
theorem Io {seed : List UInt8} (h : seed.length = 32) (idx i b : Int) : (sec seed idx i b).length = 32 := ((L9 h idx i b).H 1).2
theorem JK {s : List UInt8} (h : s.length = 32) : (Hh s).length = 32 := ((Kg h).H 2).2
theorem IV (L : Option AD) {seed : List UInt8} (h : seed.length = 32) (idx i b : Int) : ∃ L', DW L seed idx i b = some (sec seed idx i b, L') ∧ (L = none → L' = none) := by
  obtain ⟨L', h1, h2⟩ := PL L 1 (L9 h idx i b)
  refine ⟨L', ?_, h2⟩
  unfold DW
  exact Ax (F1 h) (Ax (KY idx) (Ax (NQ i) (Ax (NQ b) (Ax h1 rfl))))
theorem I1 (L : Option AD) {s : List UInt8} (h : s.length = 32) : ∃ L', DX L s = some (Hh s, L') ∧ (L = none → L' = none) := by
  obtain ⟨L', h1, h2⟩ := PL L 2 (Kg h)
  refine ⟨L', ?_, h2⟩
  unfold DX
  exact Ax (F1 h) (Ax h1 rfl)
theorem HE : ∀ (ps : List (List UInt8)), (∀ p ∈ ps, p.length = 32) → ps.flatten.length = 32 * ps.length
  | [], _ => rfl
  | p :: ps, h => by
    have h1 := h p (by simp)
    have h2 := HE ps fun q hq => h q (by simp [hq])
    simp only [List.flatten_cons, List.length_append, List.length_cons]
    omega
theorem Qn {α : Type} [Inhabited α] (l : List α) (i : Nat) (h : i < l.length) : l.getD (i : Int).toNat default = l[i] := by simp [List.getD, h]
noncomputable def Hk (ps : List (List UInt8)) : List UInt8 := H (KJ 3 [ps.flatten])
theorem Je {ps : List (List UInt8)} (h : ps.length = 64) (hp : ∀ p ∈ ps, p.length = 32) : Small [ps.flatten] := ⟨fun p hq => by rw [List.mem_singleton.1 hq, HE ps hp]; omega, by simp⟩
theorem Ny (L : Option AD) {ps : List (List UInt8)} (h : ps.length = 64) (hp : ∀ p ∈ ps, p.length = 32) : ∃ L', CG L ps = some (Hk ps, L') ∧ (L = none → L' = none) := by
  have hfl : ∀ k, (ps.take k).flatten.length ≤ 32 * 64 := fun k => by
    rw [HE _ fun p hq => hp p (List.mem_of_mem_take hq)]
    simp; omega
  obtain ⟨c, h1, h2⟩ := B7 (body := fun s : Int × Ea => CG.b1 ps s.1 s.2) (fun s => ∃ i : Nat, i ≤ 64 ∧ s = ((i : Int), ⟨(ps.take i).flatten⟩))
    (fun c => match c with | .next s => s.2 = ⟨ps.flatten⟩ | .ret _ => False) (fun s => (64 - s.1).toNat)
    (fun s ⟨i, hi, hs⟩ => by
      subst hs
      by_cases hlt : i < 64
      · have hw := hp ps[i] (List.getElem_mem (by omega))
        have e0 : ((ps.getD (i : Int).toNat default).take (32 : Int).toNat).drop (0 : Int).toNat = ps[i] := by
          rw [Qn ps i (by omega)]
          exact List.take_of_length_le (by rw [hw]; decide)
        have e1 := hfl i
        have hwr : Dv ⟨(ps.take i).flatten⟩ ps[i] = some ((ps[i].length : Int), Value.nilIface, ⟨(ps.take i).flatten ++ ps[i]⟩) := by
          unfold Dv
          rw [if_pos (by simp only [CW]; omega)]
        refine .inl ⟨(((i + 1 : Nat) : Int), ⟨(ps.take (i + 1)).flatten⟩), ?_, ⟨i + 1, by omega, rfl⟩, by simp; omega⟩
        show CG.b1 ps i _ = _
        unfold CG.b1
        rw [if_pos (by simp; omega), if_pos (by omega), e0]
        refine Ax hwr ?_
        rw [Er (by omega), List.take_succ_eq_append_getElem (by omega : i < ps.length), List.flatten_append]
        simp only [List.flatten_cons, List.flatten_nil, List.append_nil]
        rfl
      · have : i = 64 := by omega
        subst this
        refine .inr (.inl ⟨((64 : Nat), ⟨(ps.take 64).flatten⟩), ?_, by rw [List.take_of_length_le (by omega)]⟩)
        show CG.b1 ps 64 _ = _
        unfold CG.b1
        rw [if_neg (by simp)]
        rfl) ((64 - 0 : Int).toNat + 2) (0, ⟨[]⟩) ⟨0, by omega, rfl⟩ (by decide)
  obtain ⟨L', n1, n2⟩ := PL L 3 (Je h hp)
  refine ⟨L', ?_, n2⟩
  unfold CG
  cases c with
  | ret r => exact h2.elim
  | next s =>
    obtain ⟨i, b⟩ := s
    have h2 : b = ⟨ps.flatten⟩ := h2
    subst h2
    refine Bz h1 (Ax (x := ps.flatten) ?_ (Ax n1 rfl))
    unfold C2
    rw [if_pos]
    intro e
    have := HE ps hp
    have e : ps.flatten = [] := e
    rw [e, h] at this
    cases this
/-- A list filled place by place. -/
theorem Om {α : Type} {n : Nat} (f : Nat → α) (w : List α) (i : Nat) (hw : w.length = n) (hi : i < n) (h : ∀ j, j < i → w[j]? = some (f j)) : ∀ j, j < i + 1 → (w.set i (f i))[j]? = some (f j) := by
  intro j hj
  by_cases e : i = j
  · subst e; rw [List.getElem?_set_self (by omega)]
  · rw [List.getElem?_set_ne e]; exact h j (by omega)
theorem filled {α : Type} {n : Nat} {f : Nat → α} {w : List α} (hw : w.length = n) (h : ∀ j, j < n → w[j]? = some (f j)) : w = (List.range n).map f := by
  refine List.ext_getElem? fun j => ?_
  by_cases hj : j < n
  · rw [h j hj]; simp [hj]
  · rw [List.getElem?_eq_none (by omega), List.getElem?_eq_none (by simp; omega)]
noncomputable def Mh (seed : List UInt8) (idx : Int) : List (List UInt8) := (List.range 64).map fun j => Hh (sec seed idx ((j / 2 : Nat) : Int) ((j % 2 : Nat) : Int))
theorem Ix {seed : List UInt8} (h : seed.length = 32) (idx : Int) : (Mh seed idx).length = 64 ∧ ∀ p ∈ Mh seed idx, p.length = 32 := by
  refine ⟨by simp [Mh], fun p hp => ?_⟩
  obtain ⟨j, _, rfl⟩ := List.mem_map.1 hp
  exact JK (Io h _ _ _)
theorem Oz (L : Option AD) {seed : List UInt8} (h : seed.length = 32) (idx : Int) : ∃ L', CR L seed idx = some (Hk (Mh seed idx), L') ∧ (L = none → L' = none) := by
  obtain ⟨c, h1, h2⟩ := B7 (body := fun s : Int × (Option AD) × (List (List UInt8)) => CR.b1 seed idx s.1 s.2.1 s.2.2)
    (fun s => ∃ i : Nat, i ≤ 64 ∧ s.1 = (i : Int) ∧ (L = none → s.2.1 = none) ∧ s.2.2.length = 64 ∧ ∀ j, j < i → s.2.2[j]? = some (Hh (sec seed idx ((j / 2 : Nat) : Int) ((j % 2 : Nat) : Int))))
    (fun c => match c with | .next s => (L = none → s.2.1 = none) ∧ s.2.2 = Mh seed idx | .ret _ => False) (fun s => (64 - s.1).toNat)
    (fun s ⟨i, hi, q1, q2, q3, q4⟩ => by
      obtain ⟨x, l, w⟩ := s
      have q1 : x = (i : Int) := q1
      subst q1
      by_cases hlt : i < 64
      · obtain ⟨l1, a1, a2⟩ := IV l h idx ((i / 2 : Nat) : Int) ((i % 2 : Nat) : Int)
        obtain ⟨l2, b1, b2⟩ := I1 l1 (Io h idx ((i / 2 : Nat) : Int) ((i % 2 : Nat) : Int))
        refine .inl ⟨(((i + 1 : Nat) : Int), l2, w.set i (Hh (sec seed idx ((i / 2 : Nat) : Int) ((i % 2 : Nat) : Int)))), ?_, ⟨i + 1, by omega, rfl, fun e => b2 (a2 (q2 e)), by simpa using q3, Om (n := 64) _ w i q3 hlt q4⟩, by simp; omega⟩
        show CR.b1 seed idx i l w = _
        unfold CR.b1
        have e1 : (i : Int).tdiv 2 = ((i / 2 : Nat) : Int) := by rw [Int.tdiv_eq_ediv_of_nonneg (by omega)]; simp
        have e2 : (i : Int).tmod 2 = ((i % 2 : Nat) : Int) := by rw [Int.tmod_eq_emod_of_nonneg (by omega)]; simp
        rw [if_pos (by simp; omega), e1, e2]
        simp (disch := omega) only [Er]
        refine Ax a1 (Ax b1 ?_)
        rw [if_pos (by omega)]
        rfl
      · have : i = 64 := by omega
        subst this
        refine .inr (.inl ⟨((64 : Nat), l, w), ?_, q2, filled q3 q4⟩)
        show CR.b1 seed idx 64 l w = _
        unfold CR.b1
        rw [if_neg (by simp)]
        rfl) ((64 - 0 : Int).toNat + 2) (0, L, (List.replicate 64 (List.replicate 32 0))) ⟨0, by omega, rfl, fun e => e, by simp, fun j hj => by omega⟩ (by simp)
  unfold CR
  cases c with
  | ret r => exact h2.elim
  | next s =>
    obtain ⟨i, l, w⟩ := s
    obtain ⟨h2, h3⟩ : (L = none → l = none) ∧ w = Mh seed idx := h2
    subst h3
    obtain ⟨l', p1, p2⟩ := Ny l (Ix h idx).1 (Ix h idx).2
    refine ⟨l', Bz h1 ?_, fun e => p2 (h2 e)⟩
    dsimp only
    rw [p1]
    simp only [Option.bind_some]
theorem II (n : Int) : bits .and .i64 n 1 = n % 2 := by
  have h1 : (BitVec.ofInt 64 1).toNat = 2 ^ 1 - 1 := by decide
  have key : (BitVec.ofInt 64 n &&& BitVec.ofInt 64 1).toNat = (n % ((2 ^ 64 : Nat) : Int)).toNat % 2 ^ 1 := by
    rw [BitVec.toNat_and, BitVec.toNat_ofInt, h1, Nat.and_two_pow_sub_one_eq_mod]
  show IntKind.i64.wrap ((BitVec.ofInt 64 n &&& BitVec.ofInt 64 1).toNat : Nat) = n % 2
  rw [key, IntKind.wrap_i64]
  omega
/-- The bit of a digest. -/
def HR (d : List UInt8) (i : Int) : Int := (Cm d i).getD 0
theorem Nl (d : List UInt8) (i : Nat) (hi : i < 256) : Cm d i = some (HR d i) ∧ (HR d i = 0 ∨ HR d i = 1) := by
  have e1 : (i : Int).tdiv 8 = ((i / 8 : Nat) : Int) := by rw [Int.tdiv_eq_ediv_of_nonneg (by omega)]; simp
  have e2 : (i : Int).tmod 8 = ((i % 8 : Nat) : Int) := by rw [Int.tmod_eq_emod_of_nonneg (by omega)]; simp
  have hex : ∃ b, Cm d i = some b ∧ (b = 0 ∨ b = 1) := by
    unfold Cm
    rw [if_neg (by simp)]
    unfold Cm.j1
    rw [if_neg (by simp; omega), e1, e2]
    simp (disch := omega) only [Er]
    rw [if_pos (by omega), if_pos (by omega)]
    refine ⟨_, rfl, ?_⟩
    rw [II]
    omega
  obtain ⟨b, h1, h2⟩ := hex
  unfold HR
  rw [h1]
  exact ⟨rfl, h2⟩
noncomputable def Q5 (seed : List UInt8) (idx : Int) (d : List UInt8) : List (List UInt8) := (List.range 32).map fun (i : Nat) => sec seed idx (i : Int) (HR d (i : Int))
noncomputable def Q6 (seed : List UInt8) (idx : Int) (d : List UInt8) : List (List UInt8) := (List.range 32).map fun (i : Nat) => Hh (sec seed idx (i : Int) (1 - HR d (i : Int)))
theorem PY {seed : List UInt8} (h : seed.length = 32) (idx : Int) (d : List UInt8) : (Q5 seed idx d).length = 32 ∧ ∀ p ∈ Q5 seed idx d, p.length = 32 := by
  refine ⟨by simp [Q5], fun p hp => ?_⟩
  obtain ⟨j, _, rfl⟩ := List.mem_map.1 hp
  exact Io h _ _ _
theorem PZ {seed : List UInt8} (h : seed.length = 32) (idx : Int) (d : List UInt8) : (Q6 seed idx d).length = 32 ∧ ∀ p ∈ Q6 seed idx d, p.length = 32 := by
  refine ⟨by simp [Q6], fun p hp => ?_⟩
  obtain ⟨j, _, rfl⟩ := List.mem_map.1 hp
  exact JK (Io h _ _ _)
theorem sign_eq (L : Option AD) {seed : List UInt8} (h : seed.length = 32) (idx : Int) (d : List UInt8) : ∃ L', CS L seed idx d = some (Q5 seed idx d, Q6 seed idx d, L') ∧ (L = none → L' = none) := by
  obtain ⟨c, h1, h2⟩ := B7 (body := fun s : Int × (Option AD) × (List (List UInt8)) × (List (List UInt8)) => CS.b1 seed idx d s.1 s.2.1 s.2.2.1 s.2.2.2)
    (fun s => ∃ i : Nat, i ≤ 32 ∧ s.1 = (i : Int) ∧ (L = none → s.2.1 = none) ∧ s.2.2.1 = (List.range i).map (fun (i : Nat) => sec seed idx (i : Int) (HR d (i : Int))) ∧ s.2.2.2 = (List.range i).map fun (i : Nat) => Hh (sec seed idx (i : Int) (1 - HR d (i : Int))))
    (fun c => match c with | .next s => (L = none → s.2.1 = none) ∧ s.2.2.1 = Q5 seed idx d ∧ s.2.2.2 = Q6 seed idx d | .ret _ => False) (fun s => (32 - s.1).toNat)
    (fun s ⟨i, hi, q1, q2, q3, q4⟩ => by
      obtain ⟨x, l, u, w⟩ := s
      have q1 : x = (i : Int) := q1
      have q3 : u = _ := q3
      have q4 : w = _ := q4
      subst q1 q3 q4
      by_cases hlt : i < 32
      · obtain ⟨hb, hb2⟩ := Nl d i (by omega)
        obtain ⟨l1, a1, a2⟩ := IV l h idx (i : Int) (HR d i)
        obtain ⟨l2, b1, b2⟩ := IV l1 h idx (i : Int) (1 - HR d i)
        obtain ⟨l3, c1, c2⟩ := I1 l2 (Io h idx (i : Int) (1 - HR d i))
        refine .inl ⟨(((i + 1 : Nat) : Int), l3, _, _), ?_, ⟨i + 1, by omega, rfl, fun e => c2 (b2 (a2 (q2 e))), rfl, rfl⟩, by simp; omega⟩
        show CS.b1 seed idx d i l _ _ = _
        unfold CS.b1
        rw [if_pos (by simp; omega)]
        refine Ax hb (Ax a1 ?_)
        rw [if_pos (by simp [CW]; omega)]
        simp (disch := omega) only [Er]
        refine Ax b1 (Ax c1 ?_)
        rw [if_pos (by simp [CW]; omega), List.range_succ, List.map_append, List.map_append]
        rfl
      · have : i = 32 := by omega
        subst this
        refine .inr (.inl ⟨((32 : Nat), l, _, _), ?_, q2, rfl, rfl⟩)
        show CS.b1 seed idx d 32 l _ _ = _
        unfold CS.b1
        rw [if_neg (by simp)]
        rfl) ((32 - 0 : Int).toNat + 2) (0, L, [], []) ⟨0, by omega, rfl, fun e => e, rfl, rfl⟩ (by simp)
  unfold CS
  cases c with
  | ret r => exact h2.elim
  | next s =>
    obtain ⟨i, l, u, w⟩ := s
    obtain ⟨h2, h3, h4⟩ : (L = none → l = none) ∧ u = Q5 seed idx d ∧ w = Q6 seed idx d := h2
    subst h3 h4
    exact ⟨l, Bz h1 rfl, h2⟩
noncomputable def IA (d : List UInt8) (parts others : List (List UInt8)) (j : Nat) : List UInt8 := if ((j % 2 : Nat) : Int) = HR d ((j / 2 : Nat) : Int) then Hh (parts.getD (j / 2) default) else others.getD (j / 2) default
noncomputable def MP (d : List UInt8) (parts others : List (List UInt8)) : List (List UInt8) := (List.range 64).map (IA d parts others)
theorem Iz {d : List UInt8} {parts others : List (List UInt8)} (hp : parts.length = 32 ∧ ∀ p ∈ parts, p.length = 32) (ho : others.length = 32 ∧ ∀ p ∈ others, p.length = 32) : (MP d parts others).length = 64 ∧ ∀ p ∈ MP d parts others, p.length = 32 := by
  refine ⟨by simp [MP], fun p h => ?_⟩
  obtain ⟨j, hj, rfl⟩ := List.mem_map.1 h
  have hj : j < 64 := List.mem_range.1 hj
  unfold IA
  split
  · rw [show parts.getD (j / 2) default = parts[j / 2]'(by omega) from by simp [List.getD, show j / 2 < parts.length by omega]]
    exact JK (hp.2 _ (List.getElem_mem _))
  · rw [show others.getD (j / 2) default = others[j / 2]'(by omega) from by simp [List.getD, show j / 2 < others.length by omega]]
    exact ho.2 _ (List.getElem_mem _)
theorem Og (L : Option AD) (d : List UInt8) {parts others : List (List UInt8)} (hp : parts.length = 32 ∧ ∀ p ∈ parts, p.length = 32) (ho : others.length = 32 ∧ ∀ p ∈ others, p.length = 32) : ∃ L', BF L d parts others = some (Hk (MP d parts others), true, L') ∧ (L = none → L' = none) := by
  obtain ⟨c, h1, h2⟩ := B7 (body := fun s : Int × (Option AD) × (List (List UInt8)) => BF.b1 d parts others s.1 s.2.1 s.2.2)
    (fun s => ∃ i : Nat, i ≤ 32 ∧ s.1 = (i : Int) ∧ (L = none → s.2.1 = none) ∧ s.2.2.length = 64 ∧ ∀ j, j < 2 * i → s.2.2[j]? = some (IA d parts others j))
    (fun c => match c with | .next s => (L = none → s.2.1 = none) ∧ s.2.2 = MP d parts others | .ret _ => False) (fun s => (32 - s.1).toNat)
    (fun s ⟨i, hi, q1, q2, q3, q4⟩ => by
      obtain ⟨x, l, w⟩ := s
      have q1 : x = (i : Int) := q1
      have q3 : w.length = 64 := q3
      have q4 : ∀ j, j < 2 * i → w[j]? = some (IA d parts others j) := q4
      subst q1
      by_cases hlt : i < 32
      · obtain ⟨hb, hb2⟩ := Nl d i (by omega)
        have g1 : parts.getD (i : Int).toNat default = parts.getD i default := rfl
        have hpi : (parts.getD i default).length = 32 := by
          rw [show parts.getD i default = parts[i]'(by omega) from by simp [List.getD, show i < parts.length by omega]]
          exact hp.2 _ (List.getElem_mem _)
        obtain ⟨l1, a1, a2⟩ := I1 l hpi
        have hstep : ∃ w', BF.b1 d parts others i l w = some (.cont (((i + 1 : Nat) : Int), l1, w')) ∧ w'.length = 64 ∧ ∀ j, j < 2 * (i + 1) → w'[j]? = some (IA d parts others j) := by
          have k0 : IA d parts others (2 * i) = if 0 = HR d i then Hh (parts.getD i default) else others.getD i default := by
            unfold IA
            rw [show 2 * i % 2 = 0 by omega, show 2 * i / 2 = i by omega]
            rfl
          have k1 : IA d parts others (2 * i + 1) = if 1 = HR d i then Hh (parts.getD i default) else others.getD i default := by
            unfold IA
            rw [show (2 * i + 1) % 2 = 1 by omega, show (2 * i + 1) / 2 = i by omega]
            rfl
          unfold BF.b1
          rw [if_pos (by simp; omega)]
          rcases hb2 with e | e
          · rw [e] at hb k0 k1
            refine ⟨(w.set (2 * i) (Hh (parts.getD i default))).set (2 * i + 1) (others.getD i default), ?_, by simp [q3], fun j hj => ?_⟩
            · refine Ax hb ?_
              rw [if_pos (by omega)]
              refine Ax a1 ?_
              simp (disch := omega) only [Er]
              rw [if_pos (by omega), if_pos (by omega), if_pos (by omega)]
              have t1 : (2 * (i : Int) + 0).toNat = 2 * i := by omega
              have t2 : (2 * (i : Int) + 1 - 0).toNat = 2 * i + 1 := by omega
              rw [t1, t2]
              rfl
            · by_cases e1 : j = 2 * i + 1
              · subst e1; rw [List.getElem?_set_self (by simp; omega), k1]; simp
              · rw [List.getElem?_set_ne (by omega)]
                by_cases e0 : j = 2 * i
                · subst e0; rw [List.getElem?_set_self (by omega), k0]; simp
                · rw [List.getElem?_set_ne (by omega)]; exact q4 j (by omega)
          · rw [e] at hb k0 k1
            refine ⟨(w.set (2 * i + 1) (Hh (parts.getD i default))).set (2 * i) (others.getD i default), ?_, by simp [q3], fun j hj => ?_⟩
            · refine Ax hb ?_
              rw [if_pos (by omega)]
              refine Ax a1 ?_
              simp (disch := omega) only [Er]
              rw [if_pos (by omega), if_pos (by omega), if_pos (by omega)]
              have t1 : (2 * (i : Int) + 1).toNat = 2 * i + 1 := by omega
              have t2 : (2 * (i : Int) + 1 - 1).toNat = 2 * i := by omega
              rw [t1, t2]
              rfl
            · by_cases e0 : j = 2 * i
              · subst e0; rw [List.getElem?_set_self (by simp; omega), k0]; simp
              · rw [List.getElem?_set_ne (by omega)]
                by_cases e1 : j = 2 * i + 1
                · subst e1; rw [List.getElem?_set_self (by omega), k1]; simp
                · rw [List.getElem?_set_ne (by omega)]; exact q4 j (by omega)
        obtain ⟨w', e1, e2, e3⟩ := hstep
        exact .inl ⟨_, e1, ⟨i + 1, by omega, rfl, fun e => a2 (q2 e), e2, e3⟩, by simp; omega⟩
      · have : i = 32 := by omega
        subst this
        refine .inr (.inl ⟨((32 : Nat), l, w), ?_, q2, filled q3 q4⟩)
        show BF.b1 d parts others 32 l w = _
        unfold BF.b1
        rw [if_neg (by simp)]
        rfl) ((32 - 0 : Int).toNat + 2) (0, L, (List.replicate 64 (List.replicate 32 0))) ⟨0, by omega, rfl, fun e => e, by simp, fun j hj => by omega⟩ (by simp)
  unfold BF
  rw [if_neg (by simp [hp.1])]
  unfold BF.j1
  rw [if_neg (by simp [ho.1])]
  cases c with
  | ret r => exact h2.elim
  | next s =>
    obtain ⟨i, l, w⟩ := s
    obtain ⟨h2, h3⟩ : (L = none → l = none) ∧ w = MP d parts others := h2
    subst h3
    obtain ⟨l', p1, p2⟩ := Ny l (Iz (d := d) hp ho).1 (Iz hp ho).2
    refine ⟨l', Bz h1 ?_, fun e => p2 (h2 e)⟩
    dsimp only
    rw [p1]
    simp only [Option.bind_some]
theorem Of (L : Option AD) (d : List UInt8) {parts others : List (List UInt8)} (h : ¬(parts.length = 32 ∧ others.length = 32)) : BF L d parts others = some (List.replicate 32 0, false, L) := by
  unfold BF
  by_cases hp : parts.length = 32
  · rw [if_neg (by simp [hp])]
    unfold BF.j1
    rw [if_pos (by simp; omega)]
  · rw [if_pos (by simp; omega)]
    unfold BF.j1
    rw [if_pos rfl]
end
end Go.Proofs.YteboiefnflipjaaGreatDoor
