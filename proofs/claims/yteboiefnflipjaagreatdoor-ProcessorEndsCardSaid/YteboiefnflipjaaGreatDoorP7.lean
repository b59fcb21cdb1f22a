/- Plain laws: P1, P2, P4, P7, as one text. -/
import Derived.Test.YteboiefnflipjaaGreatDoorG4
import Derived.Laws.BitsLemmas
namespace Go.Proofs.YteboiefnflipjaaGreatDoor
open Go Go.RowKit Go.Proofs
section
set_option linter.unusedVariables false

theorem Ax {α β : Type} {o : Option α} {f : α → Option β} {x : α} {r : Option β} (h : o = some x) (h2 : f x = r) : o.bind f = r := by subst h; exact h2
theorem BB {R S T : Type} {o : Option (Qw R S)} {k : Qw R S → Option T} {s : S} {r : Option T} (h : o = some (.next s)) (h2 : k (.next s) = r) : o.bind k = r := by subst h; exact h2
theorem CC {R S : Type} {body : S → Option (CR R S)} (I : S → Prop) (Q : Qw R S → Prop) (m : S → Nat)
    (h : ∀ s, I s → (∃ s', body s = some (.cont s') ∧ I s' ∧ m s' < m s) ∨ (∃ s', body s = some (.brk s') ∧ Q (.next s')) ∨ ∃ r, body s = some (.ret r) ∧ Q (.ret r)) :
    ∀ (k : Nat) (s : S), I s → m s < k → ∃ c, Bf body k s = some c ∧ Q c
  | 0, s, _, hk => by omega
  | k + 1, s, hI, hk => by
    unfold Bf
    rcases h s hI with ⟨s', h1, h2, h3⟩ | ⟨s', h1, h2⟩ | ⟨r, h1, h2⟩
    · rw [h1]; exact CC I Q m h k s' h2 (by omega)
    · rw [h1]; exact ⟨_, rfl, h2⟩
    · rw [h1]; exact ⟨_, rfl, h2⟩
theorem Fc {x : Int} (h : -9223372036854775808 ≤ x ∧ x ≤ 9223372036854775807) : IntKind.wrap .i64 x = x := by
  simp only [IntKind.wrap, IntKind.bits, IntKind.signed]
  simp
  omega
theorem Jb (b : List UInt8) (hb : b.length = 64) (i : Int) (w : List Int) (hi : 0 ≤ i ∧ i < 64) (hw : w.length = 64) : ∃ w', Bp.b1 b i w = some (.cont (i + 1, w')) ∧ w'.length = 64 := by
  unfold Bp.b1
  rw [if_pos (by simpa using hi.2)]
  by_cases h16 : i < 16
  · rw [if_pos (by simpa using h16)]
    simp (disch := omega) only [Fc]
    have hlen : ((b.take (4 * i + 4).toNat).drop (4 * i).toNat).length = 4 := by simp; omega
    rw [if_pos (by omega), if_pos (by rw [hlen]; omega), if_pos (by rw [hlen]; omega), if_pos (by rw [hlen]; omega), if_pos (by rw [hlen]; omega), if_pos (by omega)]
    exact ⟨_, rfl, by simp [hw]⟩
  · rw [if_neg (by simpa using h16)]
    simp (disch := omega) only [Fc]
    rw [if_pos (by omega), if_pos (by omega)]
    simp only [A2, Option.bind_some]
    rw [if_pos (by omega), if_pos (by omega), if_pos (by omega)]
    exact ⟨_, rfl, by simp [hw]⟩
theorem Ja (b : List UInt8) (hb : b.length = 64) : ∃ w, Bp b = some w ∧ w.length = 64 := by
  obtain ⟨c, h1, h2⟩ := CC (body := fun s : Int × List Int => Bp.b1 b s.1 s.2) (fun s => 0 ≤ s.1 ∧ s.1 ≤ 64 ∧ s.2.length = 64) (fun c => match c with | .next s => s.2.length = 64 | .ret _ => False) (fun s => (64 - s.1).toNat)
    (fun s ⟨q1, q2, q3⟩ => by
      by_cases h : s.1 < 64
      · obtain ⟨w', e1, e2⟩ := Jb b hb s.1 s.2 ⟨q1, h⟩ q3
        exact .inl ⟨_, e1, ⟨by show 0 ≤ s.1 + 1; omega, by show s.1 + 1 ≤ 64; omega, e2⟩, by show (64 - (s.1 + 1)).toNat < (64 - s.1).toNat; omega⟩
      · exact .inr (.inl ⟨s, by unfold Bp.b1; rw [if_neg (by simpa using h)], q3⟩)) ((64 - 0 : Int).toNat + 2) (0, List.replicate 64 0) ⟨by decide, by decide, by simp⟩ (by decide)
  unfold Bp
  rw [h1]
  cases c with
  | ret r => exact h2.elim
  | next s => exact ⟨s.2, rfl, h2⟩
theorem Lt (h : List Int) (b : List UInt8) (hh : h.length = 8) : ∃ h', Bi h b = some h' ∧ h'.length = 8 := by
  unfold Bi
  by_cases hb : b.length = 64
  · rw [if_neg (by simp [hb])]
    obtain ⟨w, e1, e2⟩ := Ja b hb
    rw [e1, Option.bind_some]
    obtain ⟨c, h1, h2⟩ := CC (body := fun s : Int × List Int => Bi.b1 w s.1 s.2) (fun s => 0 ≤ s.1 ∧ s.1 ≤ 64 ∧ s.2.length = 8) (fun c => match c with | .next s => s.2.length = 8 | .ret _ => False) (fun s => (64 - s.1).toNat)
      (fun s ⟨q1, q2, q3⟩ => by
        by_cases h : s.1 < 64
        · refine .inl ?_
          show ∃ s', Bi.b1 w s.1 s.2 = some (.cont s') ∧ _
          unfold Bi.b1
          rw [if_pos (by simpa using h)]
          simp only [A2, Option.bind_some]
          rw [if_pos (by omega)]
          simp (disch := omega) only [Fc]
          refine ⟨_, rfl, ⟨by show 0 ≤ s.1 + 1; omega, by show s.1 + 1 ≤ 64; omega, ?_⟩, by show (64 - (s.1 + 1)).toNat < (64 - s.1).toNat; omega⟩
          simp [q3]
        · exact .inr (.inl ⟨s, by unfold Bi.b1; rw [if_neg (by simpa using h)], q3⟩)) ((64 - 0 : Int).toNat + 2) (0, h) ⟨by simp, by simp, hh⟩ (by simp)
    rw [h1]
    cases c with
    | ret r => exact h2.elim
    | next s =>
      obtain ⟨i, y⟩ := s
      have h2 : y.length = 8 := h2
      simp only [Option.bind_some]
      obtain ⟨c, h3, h4⟩ := CC (body := fun s : Int × List Int => Bi.b2 h s.1 s.2) (fun s => 0 ≤ s.1 ∧ s.1 ≤ 8 ∧ s.2.length = 8) (fun c => match c with | .next s => s.2.length = 8 | .ret _ => False) (fun s => (8 - s.1).toNat)
        (fun s ⟨q1, q2, q3⟩ => by
          by_cases h : s.1 < 8
          · refine .inl ?_
            show ∃ s', Bi.b2 _ s.1 s.2 = some (.cont s') ∧ _
            unfold Bi.b2
            rw [if_pos (by simpa using h), if_pos (by omega)]
            simp (disch := omega) only [Fc]
            exact ⟨_, rfl, ⟨by show 0 ≤ s.1 + 1; omega, by show s.1 + 1 ≤ 8; omega, by simp [q3]⟩, by show (8 - (s.1 + 1)).toNat < (8 - s.1).toNat; omega⟩
          · exact .inr (.inl ⟨s, by unfold Bi.b2; rw [if_neg (by simpa using h)], q3⟩)) ((8 - 0 : Int).toNat + 2) (0, y) ⟨by simp, by simp, h2⟩ (by simp)
      rw [h3]
      cases c with
      | ret r => exact h4.elim
      | next s => exact ⟨s.2, rfl, h4⟩
  · rw [if_pos (by simp; omega)]
    exact ⟨h, rfl, hh⟩
theorem Kb (st : AF) (l : List UInt8) (hw : st.BD.length = 8) (hl : st.Bx.length + l.length ≤ CG) : ∃ st', Bo st l = some st' ∧ st'.BD.length = 8 ∧ st'.Bx.length < 64 := by
  unfold Bo
  rw [if_pos hl]
  obtain ⟨c, h1, h2⟩ := CC (body := fun s : List UInt8 × AF => Bo.b1 s.1 s.2) (fun s => s.2.BD.length = 8) (fun c => match c with | .next s => s.1.length < 64 ∧ s.2.BD.length = 8 | .ret _ => False) (fun s => s.1.length / 64)
    (fun s q => by
      by_cases h : 64 ≤ s.1.length
      · refine .inl ?_
        show ∃ s', Bo.b1 s.1 s.2 = some (.cont s') ∧ _
        unfold Bo.b1
        rw [if_pos (by simp; omega), if_pos (by omega)]
        obtain ⟨h', e1, e2⟩ := Lt s.2.BD ((s.1.take 64).drop (0 : Int).toNat) q
        rw [e1, Option.bind_some, if_pos (by omega)]
        refine ⟨_, rfl, e2, ?_⟩
        simp
        omega
      · exact .inr (.inl ⟨s, by unfold Bo.b1; rw [if_neg (by simp; omega)], by show s.1.length < 64; omega, q⟩)) ((((st.Bx ++ l).length : Int) - 64 : Int).toNat + 2) (st.Bx ++ l, AF.mk st.BD st.Bx (IntKind.wrap .u64 (st.Cc + (IntKind.wrap .u64 (l.length : Int))))) hw (by simp only [List.length_append]; omega)
  rw [h1]
  cases c with
  | ret r => exact h2.elim
  | next s => exact ⟨_, rfl, h2.2, h2.1⟩
theorem Nc (st : AF) (hw : st.BD.length = 8) (hr : st.Bx.length < 64) : ∃ d, AN st = some d ∧ d.length = 32 := by
  unfold AN
  obtain ⟨c, h1, h2⟩ := CC (body := fun s : Int × List UInt8 => AN.b1 st s.1 s.2) (fun s => 0 ≤ s.1 ∧ s.1 ≤ 8 ∧ s.2.length = 8) (fun c => match c with | .next s => s.2.length = 8 | .ret _ => False) (fun s => (8 - s.1).toNat)
    (fun s ⟨q1, q2, q3⟩ => by
      by_cases h : s.1 < 8
      · refine .inl ?_
        show ∃ s', AN.b1 st s.1 s.2 = some (.cont s') ∧ _
        unfold AN.b1
        simp (disch := omega) only [Fc]
        rw [if_pos (by simpa using h), if_pos (by omega), if_pos (by omega)]
        exact ⟨_, rfl, ⟨by show 0 ≤ s.1 + 1; omega, by show s.1 + 1 ≤ 8; omega, by simp [q3]⟩, by show (8 - (s.1 + 1)).toNat < (8 - s.1).toNat; omega⟩
      · exact .inr (.inl ⟨s, by unfold AN.b1; rw [if_neg (by simpa using h)], q3⟩)) ((8 - 0 : Int).toNat + 2) (0, List.replicate 8 0) ⟨by simp, by simp, by simp⟩ (by simp)
  rw [h1]
  cases c with
  | ret r => exact h2.elim
  | next s =>
    obtain ⟨i, y⟩ := s
    have h2 : y.length = 8 := h2
    simp only [Option.bind_some]
    have ht : (st.Bx.length : Int).tmod 64 = st.Bx.length := by rw [Int.tmod_eq_emod_of_nonneg (by omega)]; omega
    have hwr : IntKind.wrap .i64 (119 - ((st.Bx.length : Int).tmod 64)) = 119 - st.Bx.length := by rw [ht]; exact Fc (by omega)
    rw [hwr]
    have ht2 : (119 - (st.Bx.length : Int)).tmod 64 = (119 - (st.Bx.length : Int)) % 64 := Int.tmod_eq_emod_of_nonneg (by omega)
    rw [ht2]
    have hrep : ∀ n : Nat, (Lib.repeatL [0] n).length = n := fun n => by rw [Lib.repeatL_length]; simp
    rw [if_pos (by simp; omega), if_pos (by rw [hrep]; simp [CG]; omega), if_pos (by rw [List.length_append, hrep]; simp [CG]; omega)]
    obtain ⟨st', e1, e2, e3⟩ := Kb st (([128] ++ (Lib.repeatL [0] ((119 - (st.Bx.length : Int)) % 64).toNat)) ++ (y.take ((8 : Int).toNat - (0 : Int).toNat))) hw (by simp only [List.length_append, hrep]; simp [CG]; omega)
    rw [e1, Option.bind_some]
    obtain ⟨c, h3, h4⟩ := CC (body := fun s : Int × List UInt8 => AN.b2 st' s.1 s.2) (fun s => 0 ≤ s.1 ∧ s.1 ≤ 8 ∧ s.2.length = 32) (fun c => match c with | .next s => s.2.length = 32 | .ret _ => False) (fun s => (8 - s.1).toNat)
      (fun s ⟨q1, q2, q3⟩ => by
        by_cases h : s.1 < 8
        · refine .inl ?_
          show ∃ s', AN.b2 st' s.1 s.2 = some (.cont s') ∧ _
          unfold AN.b2
          rw [if_pos (by simpa using h), if_pos (by omega)]
          obtain ⟨c, h5, h6⟩ := CC (body := fun t : Int × List UInt8 => AN.b3 st' s.1 t.1 t.2) (fun t => 0 ≤ t.1 ∧ t.1 ≤ 4 ∧ t.2.length = 32) (fun c => match c with | .next t => t.2.length = 32 | .ret _ => False) (fun t => (4 - t.1).toNat)
            (fun t ⟨r1, r2, r3⟩ => by
              by_cases h' : t.1 < 4
              · refine .inl ?_
                show ∃ s', AN.b3 st' s.1 t.1 t.2 = some (.cont s') ∧ _
                unfold AN.b3
                simp (disch := omega) only [Fc]
                rw [if_pos (by simpa using h'), if_pos (by omega), if_pos (by omega)]
                exact ⟨_, rfl, ⟨by show 0 ≤ t.1 + 1; omega, by show t.1 + 1 ≤ 4; omega, by simp [r3]⟩, by show (4 - (t.1 + 1)).toNat < (4 - t.1).toNat; omega⟩
              · exact .inr (.inl ⟨t, by unfold AN.b3; rw [if_neg (by simpa using h')], r3⟩)) ((4 - 0 : Int).toNat + 2) (0, s.2) ⟨by simp, by simp, q3⟩ (by simp)
          rw [h5]
          cases c with
          | ret r => exact h6.elim
          | next t =>
            simp (disch := omega) only [Fc, Option.bind_some]
            exact ⟨_, rfl, ⟨by show 0 ≤ s.1 + 1; omega, by show s.1 + 1 ≤ 8; omega, h6⟩, by show (8 - (s.1 + 1)).toNat < (8 - s.1).toNat; omega⟩
        · exact .inr (.inl ⟨s, by unfold AN.b2; rw [if_neg (by simpa using h)], q3⟩)) ((8 - 0 : Int).toNat + 2) (0, List.replicate 32 0) ⟨by simp, by simp, by simp⟩ (by simp)
    rw [h3]
    cases c with
    | ret r => exact h4.elim
    | next s => exact ⟨s.2, rfl, h4⟩
theorem MI (l : List UInt8) (hl : l.length ≤ CG) : ∃ d, CB [l] = some d ∧ d.length = 32 := by
  unfold CB Gl
  rw [Option.bind_some]
  obtain ⟨st, e1, e2, e3⟩ := Kb (AF.mk E7 [] 0) l (by simp [E7]) (by simpa using hl)
  have hloop : Bf (fun s : Int × AF => CB.b1 [l] s.1 s.2) (((([l] : List (List UInt8)).length : Int) - 0 : Int).toNat + 2) (0, AF.mk E7 [] 0) = some (.next (1, st)) := by
    show Bf _ 3 _ = _
    unfold Bf
    have hb0 : CB.b1 [l] 0 (AF.mk E7 [] 0) = some (.cont (1, st)) := by
      unfold CB.b1
      rw [if_pos (by simp), if_pos (by simp)]
      have : ([l] : List (List UInt8)).getD (0 : Int).toNat default = l := rfl
      rw [this, e1, Option.bind_some]
      rfl
    have hb1 : CB.b1 [l] 1 st = some (.brk (1, st)) := by
      unfold CB.b1
      rw [if_neg (by simp)]
    simp only [hb0]
    unfold Bf
    simp only [hb1]
  rw [hloop]
  obtain ⟨d, h1, h2⟩ := Nc st e2 e3
  exact ⟨d, by simp only [Option.bind_some, h1], h2⟩
end

section
set_option linter.unusedVariables false

/-- A length, in four bytes. -/
def JS (n : Int) : List UInt8 := [BA (IntKind.wrap .u8 (shr .u64 n 24)), BA (IntKind.wrap .u8 (shr .u64 n 16)), BA (IntKind.wrap .u8 (shr .u64 n 8)), BA (IntKind.wrap .u8 (shr .u64 n 0))]
theorem Qs (n : Int) : Ei n 4 = some (JS n) := rfl
theorem KX {x : Int} (h : 0 ≤ x ∧ x < 4294967296) : IntKind.wrap .u32 x = x := by
  simp only [IntKind.wrap, IntKind.bits, IntKind.signed]
  simp
  omega
theorem GL {x : Int} (h : 0 ≤ x ∧ x < 18446744073709551616) : IntKind.wrap .u64 x = x := by
  simp only [IntKind.wrap, IntKind.bits, IntKind.signed]
  simp
  omega
theorem byteOf {n : Nat} {q : Nat} {k : Int} (hk : (2 : Int) ^ (min k.toNat IntKind.u64.bits) = q) (hq : 0 < q) : (BA (IntKind.wrap .u8 (shr .u64 (n : Int) k))).toNat = n / q % 256 := by
  unfold shr
  rw [hk, Int.fdiv_eq_ediv_of_nonneg _ (by omega)]
  have h1 : ((n : Int) / (q : Int)) = ((n / q : Nat) : Int) := by simp
  rw [h1]
  generalize n / q = m
  simp only [IntKind.wrap, IntKind.bits, IntKind.signed, BA]
  simp
  omega
theorem IX (p : List UInt8) (h : p.length < 4294967296) : ET p = some (JS p.length ++ p) := by
  unfold ET DM
  rw [KX (by omega), GL (by omega), Qs]
  simp only [Option.bind_some]
  rw [if_pos (by simp only [JS, List.length_cons, List.length_nil, CG]; omega)]
/-- Parts, each behind its length. -/
def enc : List (List UInt8) → List UInt8
  | [] => []
  | p :: ps => JS p.length ++ p ++ enc ps
theorem Fl : ∀ (ps qs : List (List UInt8)), enc (ps ++ qs) = enc ps ++ enc qs
  | [], qs => rfl
  | p :: ps, qs => by simp [enc, Fl ps qs]
theorem KL (ps : List (List UInt8)) (i : Nat) : (enc (ps.take i)).length ≤ (enc ps).length := by
  have := Fl (ps.take i) (ps.drop i)
  rw [List.take_append_drop] at this
  rw [this]; simp
theorem NY (d : Int) (ps : List (List UInt8)) (hp : ∀ p ∈ ps, p.length < 4294967296) (hl : (enc ps).length + 1 ≤ 140737488355328) (hn : ps.length < 4294967296) : Cn d ps = some (BA d :: enc ps) := by
  unfold Cn Da
  rw [if_pos (by simp [CG])]
  simp only [Option.bind_some]
  obtain ⟨c, h1, h2⟩ := CC (body := fun s : Int × EW => Cn.b1 ps s.1 s.2) (fun s => ∃ i : Nat, i ≤ ps.length ∧ s = ((i : Int), ⟨BA d :: enc (ps.take i)⟩)) (fun c => match c with | .next s => s.2 = ⟨BA d :: enc ps⟩ | .ret _ => False) (fun s => (ps.length - s.1).toNat)
    (fun s ⟨i, hi, hs⟩ => by
      subst hs
      by_cases h : i < ps.length
      · refine .inl ?_
        show ∃ s', Cn.b1 ps (i : Int) ⟨BA d :: enc (ps.take i)⟩ = some (.cont s') ∧ _
        unfold Cn.b1
        rw [if_pos (by simpa using h), if_pos (by omega)]
        have hg : ps.getD (i : Int).toNat default = ps[i] := by simp [List.getD, h]
        rw [hg, IX _ (hp _ (List.getElem_mem h)), Option.bind_some]
        unfold CP
        have he : enc (ps.take (i + 1)) = enc (ps.take i) ++ (JS (ps[i].length : Int) ++ ps[i]) := by
          rw [List.take_succ_eq_append_getElem h, Fl]; simp [enc]
        have hlen := KL ps (i + 1)
        rw [he] at hlen
        simp only [List.length_append] at hlen
        rw [if_pos (by simp only [List.length_cons, List.length_append, CG]; omega), Option.bind_some]
        simp (disch := omega) only [Fc]
        refine ⟨_, rfl, ⟨i + 1, by omega, ?_⟩, by show (ps.length - ((i : Int) + 1)).toNat < (ps.length - (i : Int)).toNat; omega⟩
        rw [he]; simp
      · have hi' : i = ps.length := by omega
        subst hi'
        exact .inr (.inl ⟨_, by show Cn.b1 ps _ _ = _; unfold Cn.b1; rw [if_neg (by simp)], by simp⟩)) (((ps.length : Int) - 0 : Int).toNat + 2) (0, ⟨[] ++ [BA d]⟩) ⟨0, by omega, by simp [enc]⟩ (by simp)
  rw [h1]
  cases c with
  | ret r => exact h2.elim
  | next s =>
    obtain ⟨i, y⟩ := s
    have h2 : y = ⟨BA d :: enc ps⟩ := h2
    subst h2
    simp only [Option.bind_some, Dt]
    rw [if_pos (by simp)]
    rfl
end

section
set_option linter.unusedVariables false

def iter {σ : Type} (f : Nat → σ → σ) : Nat → Nat → σ → σ
  | _, 0, s => s
  | i, m + 1, s => iter f (i + 1) m (f i s)
theorem Ln {σ : Type} (f : Nat → σ → σ) : ∀ (m n i : Nat) (s : σ), iter f i (m + n) s = iter f (i + m) n (iter f i m s)
  | 0, n, i, s => by simp [iter]
  | m + 1, n, i, s => by
    rw [Nat.add_right_comm, iter, Ln f m n (i + 1) (f i s)]
    simp [iter, Nat.add_assoc, Nat.add_comm 1 m]
/-- A counting loop. -/
theorem Fx {R σ : Type} {body : Int × σ → Option (CR R (Int × σ))} (I : σ → Prop) (f : Nat → σ → σ) (n : Nat)
    (hs : ∀ (i : Nat) (s : σ), i < n → I s → body ((i : Int), s) = some (.cont (((i + 1 : Nat) : Int), f i s)) ∧ I (f i s)) (he : ∀ s, body ((n : Int), s) = some (.brk ((n : Int), s))) :
    ∀ (m i : Nat) (s : σ) (k : Nat), i + m = n → I s → m < k → Bf body k ((i : Int), s) = some (.next ((n : Int), iter f i m s)) ∧ I (iter f i m s)
  | 0, i, s, k + 1, h, hI, _ => by
    have : i = n := by omega
    subst this
    unfold Bf
    rw [he]
    exact ⟨rfl, hI⟩
  | m + 1, i, s, k + 1, h, hI, hk => by
    obtain ⟨h1, h2⟩ := hs i s (by omega) hI
    unfold Bf
    rw [h1]
    exact Fx I f n hs he m (i + 1) (f i s) k (by omega) h2 (by omega)
theorem Em (a b : Int) : bits .or .u32 a b = bits .or .u32 b a := by
  simp only [bits]
  rw [BitVec.or_comm]
theorem G7 (n : Int) (h₀ : 0 ≤ n) (h₁ : n < 2 ^ 32) : IntKind.u32.wrap n = n := by rw [IntKind.wrap_u32]; omega
theorem Oz (b0 b1 b2 b3 : Nat) (h0 : b0 < 256) (h1 : b1 < 256) (h2 : b2 < 256) (h3 : b3 < 256) :
    bits .or .u32 (bits .or .u32 (bits .or .u32 (shl .u32 (IntKind.wrap .u32 (b0 : Int)) 24) (shl .u32 (IntKind.wrap .u32 (b1 : Int)) 16)) (shl .u32 (IntKind.wrap .u32 (b2 : Int)) 8)) (IntKind.wrap .u32 (b3 : Int)) =
      IntKind.wrap .u32 ((IntKind.wrap .u32 ((IntKind.wrap .u32 ((IntKind.wrap .u32 ((IntKind.wrap .u32 (b0 : Int)) * 16777216)) + (IntKind.wrap .u32 ((IntKind.wrap .u32 (b1 : Int)) * 65536)))) + (IntKind.wrap .u32 ((IntKind.wrap .u32 (b2 : Int)) * 256)))) + (IntKind.wrap .u32 (b3 : Int))) := by
  have e24 : ∀ x : Int, shl .u32 x 24 = IntKind.wrap .u32 (x * 16777216) := fun x => rfl
  have e16 : ∀ x : Int, shl .u32 x 16 = IntKind.wrap .u32 (x * 65536) := fun x => rfl
  have e8 : ∀ x : Int, shl .u32 x 8 = IntKind.wrap .u32 (x * 256) := fun x => rfl
  rw [e24, e16, e8]
  simp (disch := omega) only [G7]
  rw [bits_join .u32 32 (by decide) G7 24 ((b0 : Int) * 16777216) ((b1 : Int) * 65536) (by omega) (by omega) (by omega) (by omega) (by omega) (by omega),
    bits_join .u32 32 (by decide) G7 16 ((b0 : Int) * 16777216 + (b1 : Int) * 65536) ((b2 : Int) * 256) (by omega) (by omega) (by omega) (by omega) (by omega) (by omega),
    bits_join .u32 32 (by decide) G7 8 ((b0 : Int) * 16777216 + (b1 : Int) * 65536 + (b2 : Int) * 256) (b3 : Int) (by omega) (by omega) (by omega) (by omega) (by omega) (by omega)]
end

section
set_option linter.unusedVariables false

noncomputable def H (x : List UInt8) : List UInt8 := Classical.epsilon fun d => CB [x] = some d
theorem RG {x : List UInt8} (h : x.length ≤ 1000000) : CB [x] = some (H x) ∧ (H x).length = 32 := by
  obtain ⟨d, h1, h2⟩ := MI x (by simp [CG]; omega)
  have h3 : CB [x] = some (H x) := Classical.epsilon_spec (p := fun d => CB [x] = some d) ⟨d, h1⟩
  refine ⟨h3, ?_⟩
  rw [h1] at h3
  rw [← Option.some.inj h3]
  exact h2
def IV (d : Int) (ps : List (List UInt8)) : List UInt8 := BA d :: enc ps
/-- Bounds of the parts of an ask. -/
def Small (ps : List (List UInt8)) : Prop := (∀ p ∈ ps, p.length ≤ 5000) ∧ ps.length ≤ 20
theorem Small.enc {ps : List (List UInt8)} (h : Small ps) : (enc ps).length ≤ 20 * 5004 := by
  have : ∀ (ps : List (List UInt8)), (∀ p ∈ ps, p.length ≤ 5000) → (Go.Proofs.YteboiefnflipjaaGreatDoor.enc ps).length ≤ ps.length * 5004 := by
    intro ps
    induction ps with
    | nil => intro _; simp [Go.Proofs.YteboiefnflipjaaGreatDoor.enc]
    | cons p ps ih =>
      intro hp
      have h1 := ih fun q hq => hp q (by simp [hq])
      have h2 := hp p (by simp)
      simp only [Go.Proofs.YteboiefnflipjaaGreatDoor.enc, List.length_append, List.length_cons]
      simp [JS]
      omega
  exact Nat.le_trans (this ps h.1) (Nat.mul_le_mul_right _ h.2)
theorem Small.H {ps : List (List UInt8)} (h : Small ps) (d : Int) : CB [IV d ps] = some (H (IV d ps)) ∧ (Go.Proofs.YteboiefnflipjaaGreatDoor.H (IV d ps)).length = 32 :=
  RG (by have := h.enc; simp [IV]; omega)
theorem L0 (L : Option AP) (g s : List UInt8) : ∃ L', A6 L g s = some L' ∧ (L = none → L' = none) := by
  cases L with
  | none => exact ⟨none, rfl, fun _ => rfl⟩
  | some L =>
    show ∃ L', A6.s L g s = some L' ∧ _
    unfold A6.s A6.j1 A6.j2
    repeat' split
    all_goals exact ⟨_, rfl, fun h => by cases h⟩
theorem RA (L : Option AP) (d : Int) {ps : List (List UInt8)} (h : Small ps) : ∃ L', DV L d ps = some (H (IV d ps), L') ∧ (L = none → L' = none) := by
  obtain ⟨L', h1, h2⟩ := L0 L (H (IV d ps)) (IV d ps)
  have he := h.enc
  refine ⟨L', ?_, h2⟩
  unfold DV
  exact Ax (NY d ps (fun p hp => by have := h.1 p hp; omega) (by omega) (by have := h.2; omega)) (Ax (h.H d).1 (Ax h1 rfl))
def JW (i : Int) : List UInt8 := JS (IntKind.wrap .u32 i)
def O4 (i : Int) : UInt8 := BA (IntKind.wrap .u8 i)
theorem QI (i : Int) : IntKind.wrap .u8 (shr .u64 (IntKind.wrap .u64 (IntKind.wrap .u8 i)) 0) = IntKind.wrap .u8 i := by
  have h : 0 ≤ IntKind.wrap .u8 i ∧ IntKind.wrap .u8 i < 256 := by
    simp only [IntKind.wrap, IntKind.bits, IntKind.signed]; simp; omega
  rw [GL (by omega)]
  have h2 : shr .u64 (IntKind.wrap .u8 i) 0 = IntKind.wrap .u8 i := by
    unfold shr; simp
  rw [h2]
  simp only [IntKind.wrap, IntKind.bits, IntKind.signed]; simp
theorem O2 (i : Int) : Gj (IntKind.wrap .u8 i) = some [O4 i] := by
  have h : ∀ n, Ei n 1 = some [BA (IntKind.wrap .u8 (shr .u64 n 0))] := fun _ => rfl
  unfold Gj
  rw [h]
  refine Ax rfl ?_
  rw [QI]
  rfl
theorem ME (i : Int) : DM (IntKind.wrap .u32 i) = some (JW i) := by
  unfold DM
  have h : 0 ≤ IntKind.wrap .u32 i ∧ IntKind.wrap .u32 i < 4294967296 := by
    simp only [IntKind.wrap, IntKind.bits, IntKind.signed]; simp; omega
  rw [GL (by omega), Qs]
  rfl
theorem Ir {x : List UInt8} (h : x.length = 32) : DP x = some x := by
  have : x.take ((32 : Int).toNat - (0 : Int).toNat) = x := List.take_of_length_le (by rw [h]; decide)
  unfold DP
  rw [this]
def Rt (seed : List UInt8) (idx i b : Int) : List (List UInt8) := [seed, JW idx, [O4 i], [O4 b]]
noncomputable def sec (seed : List UInt8) (idx i b : Int) : List UInt8 := H (IV 1 (Rt seed idx i b))
noncomputable def I0 (s : List UInt8) : List UInt8 := H (IV 2 [s])
noncomputable def PK (ps : List (List UInt8)) : List UInt8 := H (IV 3 [ps.flatten])
noncomputable def Ru (seed : List UInt8) (idx : Int) : List (List UInt8) := (List.range 64).map fun j => I0 (sec seed idx ((j / 2 : Nat) : Int) ((j % 2 : Nat) : Int))
end
end Go.Proofs.YteboiefnflipjaaGreatDoor
