/- Plain law of DigestInputs, put together. -/
import Derived.Test.YtbhehllkimedaaaDoorP2
namespace Go.Proofs.YtbhehllkimedaaaDoor
open Go Go.RowKit Go.Proofs
set_option linter.unusedVariables false

theorem of_eq (L : Option O_Log) (d : Int) (ps : List (List UInt8)) (hp : ∀ p ∈ ps, p.length < 4294967296) (hl : (enc ps).length + 1 ≤ 140737488355328) (hn : ps.length < 4294967296) : ∃ g, sha_Sum [u8of d :: enc ps] = some g ∧ g.length = 32 ∧ digest_Log_Of L d ps = (digest_Log_note L g (u8of d :: enc ps)).bind fun r => some (g, r) := by
  obtain ⟨g, h1, h2⟩ := sum_total (u8of d :: enc ps) (by simp [mxl]; omega)
  refine ⟨g, h1, h2, ?_⟩
  unfold digest_Log_Of
  rw [input_eq d ps hp hl hn, Option.bind_some, h1, Option.bind_some]
theorem awake_eq : law04_awake = some true := by
  unfold law04_awake digest_New
  rw [Option.bind_some]
  obtain ⟨g, h1, h2, h3⟩ := of_eq (some ⟨[], []⟩) 1 [] (by simp) (by simp [enc]) (by simp)
  have h1' : sha_Sum [[1]] = some g := h1
  have h4 : digest_Log_note (some ⟨[], []⟩) g (u8of 1 :: enc []) = some (some ⟨[(g, u8of 1 :: enc [])], []⟩) := rfl
  rw [h3, h4, Option.bind_some, Option.bind_some, h1', Option.bind_some]
  rw [if_pos (by simp)]
  have h5 : digest_Log_Count (some ⟨[(g, u8of 1 :: enc [])], []⟩) = some 1 := rfl
  have h6 : digest_Log_Clash (some ⟨[(g, u8of 1 :: enc [])], []⟩) = some false := rfl
  rw [h5, Option.bind_some, if_pos (by simp), h6, Option.bind_some]
  rfl
theorem light_bound {ps : List (List UInt8)} (h : ps.length ≤ 20 ∧ ∀ p ∈ ps, p.length ≤ 1000) : (enc ps).length ≤ 20 * 1004 := by
  have : ∀ (ps : List (List UInt8)), (∀ p ∈ ps, p.length ≤ 1000) → (enc ps).length ≤ ps.length * 1004 := by
    intro ps
    induction ps with
    | nil => intro _; simp [enc]
    | cons p ps ih =>
      intro hp
      have h1 := ih fun q hq => hp q (by simp [hq])
      have h2 := hp p (by simp)
      simp only [enc, List.length_append, List.length_cons]
      simp [hd4]
      omega
  exact Nat.le_trans (this ps h.2) (Nat.mul_le_mul_right _ h.1)
theorem u8of_inj {a b : Int} (ha : InR .u8 a) (hb : InR .u8 b) (h : u8of a = u8of b) : a = b := by
  have e := congrArg UInt8.toNat h
  have h1 := ha.1; have h2 := ha.2; have h3 := hb.1; have h4 := hb.2
  simp [IntKind.min, IntKind.max, IntKind.bits, IntKind.signed] at h1 h2 h3 h4
  simp [u8of] at e
  omega
theorem inputs_same (x y : S_law04_Ask) : ∀ (b : Bool), (b = true → x.f_Domain = y.f_Domain ∧ x.f_Parts.length = y.f_Parts.length) → (b = false → ¬(x.f_Domain = y.f_Domain ∧ x.f_Parts = y.f_Parts)) → x.f_Parts.length < 20000 →
    ∃ i, loopN (fun s : Bool × Int => law04_DigestInputs.b1 x y s.1 s.2) 100000 (b, 0) = some (.next (decide (x.f_Domain = y.f_Domain ∧ x.f_Parts = y.f_Parts), i)) := by
  intro b hb1 hb2 hlen
  obtain ⟨c, h1, h2⟩ := loop_ok (body := fun s : Bool × Int => law04_DigestInputs.b1 x y s.1 s.2)
    (fun s => (s.1 = true ∧ x.f_Domain = y.f_Domain ∧ x.f_Parts.length = y.f_Parts.length ∧ ∃ i : Nat, s.2 = (i : Int) ∧ i ≤ x.f_Parts.length ∧ x.f_Parts.take i = y.f_Parts.take i) ∨ (s.1 = false ∧ ¬(x.f_Domain = y.f_Domain ∧ x.f_Parts = y.f_Parts)))
    (fun c => match c with | .next s => s.1 = decide (x.f_Domain = y.f_Domain ∧ x.f_Parts = y.f_Parts) | .ret _ => False) (fun s => if s.1 then (x.f_Parts.length - s.2).toNat + 1 else 0)
    (fun s hs => by
      obtain ⟨sb, si⟩ := s
      rcases hs with ⟨q1, q2, q3, i, q4, q5, q6⟩ | ⟨q1, q2⟩
      · have q1 : sb = true := q1
        have q4 : si = (i : Int) := q4
        subst q1; subst q4
        show (∃ s', law04_DigestInputs.b1 x y true (i : Int) = some (.cont s') ∧ _) ∨ (∃ s', law04_DigestInputs.b1 x y true (i : Int) = some (.brk s') ∧ _) ∨ _
        unfold law04_DigestInputs.b1 law04_DigestInputs.j2
        rw [if_pos rfl]
        by_cases h : i < x.f_Parts.length
        · rw [if_pos (by simpa using h), if_pos (by omega), if_pos (by omega)]
          simp (disch := omega) only [w64]
          have g1 : x.f_Parts.getD (i : Int).toNat default = x.f_Parts[i] := by simp [List.getD, h]
          have g2 : y.f_Parts.getD (i : Int).toNat default = y.f_Parts[i]'(by omega) := by
            have : i < y.f_Parts.length := by omega
            simp [List.getD, this]
          rw [g1, g2]
          refine .inl ⟨_, rfl, ?_, ?_⟩
          · by_cases he : x.f_Parts[i] = y.f_Parts[i]'(by omega)
            · refine .inl ⟨by simp [he], q2, q3, i + 1, by simp, by omega, ?_⟩
              rw [List.take_succ_eq_append_getElem h, List.take_succ_eq_append_getElem (by omega), q6, he]
            · refine .inr ⟨by simp [he], fun hc => he ?_⟩
              simp [hc.2]
          · simp only [if_true]
            split <;> omega
        · rw [if_neg (by simpa using h)]
          have hi : i = x.f_Parts.length := by omega
          refine .inr (.inl ⟨_, rfl, ?_⟩)
          have hall : x.f_Parts = y.f_Parts := by
            rw [hi, List.take_length] at q6
            rw [q6, q3, List.take_length]
          simp [q2, hall]
      · have q1 : sb = false := q1
        subst q1
        refine .inr (.inl ⟨(false, si), ?_, ?_⟩)
        · show law04_DigestInputs.b1 x y false si = _
          unfold law04_DigestInputs.b1 law04_DigestInputs.j2
          rw [if_neg (by simp), if_neg (by simp)]
        · simp [q2]) 100000 (b, 0) (by
      cases b with
      | true => exact .inl ⟨rfl, (hb1 rfl).1, (hb1 rfl).2, 0, rfl, by omega, by simp⟩
      | false => exact .inr ⟨rfl, hb2 rfl⟩) (by show (if b then _ else _) < _; split <;> simp <;> omega)
  cases c with
  | ret r => exact h2.elim
  | next s =>
    obtain ⟨s1, s2⟩ := s
    have h2 : s1 = decide (x.f_Domain = y.f_Domain ∧ x.f_Parts = y.f_Parts) := h2
    subst h2
    exact ⟨s2, h1⟩
theorem digestInputs_true (x y : S_law04_Ask) (hx : InR .u8 x.f_Domain) (hy : InR .u8 y.f_Domain) (lx : x.f_Parts.length ≤ mxl) (ly : y.f_Parts.length ≤ mxl) : law04_DigestInputs x y = some true := by
  unfold law04_DigestInputs
  rw [awake_eq, Option.bind_some, if_neg (by simp)]
  obtain ⟨b, h1, h2⟩ := light_eq [x, y] (by simp [mxl]) (by simp [lx, ly])
  rw [h1, Option.bind_some]
  cases b with
  | false => rw [if_pos (by simp)]; rfl
  | true =>
    rw [if_neg (by simp)]
    have hL : LightP [x, y] := by
      rcases h2 rfl with h | h
      · cases h
      · exact h
    have bx := hL.2 x (by simp)
    have by_ := hL.2 y (by simp)
    have ex := light_bound bx
    have ey := light_bound by_
    unfold digest_New
    rw [Option.bind_some]
    have px : ∀ p ∈ x.f_Parts, p.length < 4294967296 := fun p hp => by have := bx.2 p hp; omega
    have py : ∀ p ∈ y.f_Parts, p.length < 4294967296 := fun p hp => by have := by_.2 p hp; omega
    obtain ⟨gx, a1, a2, a3⟩ := of_eq (some ⟨[], []⟩) x.f_Domain x.f_Parts px (by omega) (by omega)
    generalize hix : u8of x.f_Domain :: enc x.f_Parts = ix at *
    have n1 : digest_Log_note (some ⟨[], []⟩) gx ix = some (some ⟨[(gx, ix)], []⟩) := rfl
    rw [a3, n1, Option.bind_some, Option.bind_some]
    obtain ⟨gy, b1, b2, b3⟩ := of_eq (some ⟨[(gx, ix)], []⟩) y.f_Domain y.f_Parts py (by omega) (by omega)
    generalize hiy : u8of y.f_Domain :: enc y.f_Parts = iy at *
    have hsame : (x.f_Domain = y.f_Domain ∧ x.f_Parts = y.f_Parts) ↔ ix = iy := by
      constructor
      · rintro ⟨h3, h4⟩
        rw [← hix, ← hiy, h3, h4]
      · intro h3
        rw [← hix, ← hiy] at h3
        obtain ⟨h4, h5⟩ := List.cons.inj h3
        exact ⟨u8of_inj hx hy h4, enc_inj _ _ px py h5⟩
    have hg : ix = iy → gx = gy := fun h => by rw [h] at a1; rw [a1] at b1; exact Option.some.inj b1
    -- the second note
    have n2 : ∃ L, digest_Log_note (some ⟨[(gx, ix)], []⟩) gy iy = some (some L) ∧ L.f_inputs.length = (if gx = gy then 1 else 2) ∧ L.f_others.length = (if gx = gy ∧ ix ≠ iy then 1 else 0) := by
      unfold digest_Log_note digest_Log_note.s
      by_cases h3 : gy = gx
      · subst h3
        by_cases h4 : ix = iy
        · subst h4
          refine ⟨⟨[(gy, ix)], []⟩, ?_, by simp, by simp⟩
          simp [lkp, upd, digest_Log_note.j1, digest_Log_note.j2]
        · refine ⟨⟨[(gy, ix)], [(iy, true)]⟩, ?_, by simp, by simp [h4]⟩
          simp [lkp, upd, digest_Log_note.j1, digest_Log_note.j2, h4]
      · have h3' : ¬ gx = gy := fun e => h3 e.symm
        refine ⟨⟨[(gx, ix), (gy, iy)], []⟩, ?_, by simp [h3'], by simp [h3']⟩
        simp [lkp, upd, digest_Log_note.j1, digest_Log_note.j2, h3]
    obtain ⟨L, n3, n4, n5⟩ := n2
    rw [b3, n3, Option.bind_some, Option.bind_some]
    have hcount : digest_Log_Count (some L) = some (if ix = iy then 1 else 2) := by
      unfold digest_Log_Count digest_Log_Count.s
      simp only
      rw [n4, n5]
      by_cases h3 : ix = iy
      · have h4 := hg h3
        simp [h3, h4, mxl, w64]
      · by_cases h4 : gx = gy
        · simp [h3, h4, mxl, w64]
        · simp [h3, h4, mxl, w64]
    have hclash : digest_Log_Clash (some L) = some (decide (gx = gy ∧ ix ≠ iy)) := by
      unfold digest_Log_Clash digest_Log_Clash.s
      simp only
      rw [n5]
      by_cases h3 : gx = gy ∧ ix ≠ iy
      · simp [h3, mxl]
      · simp [h3, mxl]
    have hrest : ∀ b : Bool, (b = true → x.f_Domain = y.f_Domain ∧ x.f_Parts.length = y.f_Parts.length) → (b = false → ¬(x.f_Domain = y.f_Domain ∧ x.f_Parts = y.f_Parts)) → law04_DigestInputs.j1 x y (gx, some ⟨[(gx, ix)], []⟩) (gy, some L) b = some true := by
      intro b q1 q2
      unfold law04_DigestInputs.j1
      obtain ⟨i, hl⟩ := inputs_same x y b q1 q2 (by omega)
      rw [hl]
      simp only [Option.bind_some, awake_eq, if_true, hcount, hclash]
      by_cases h3 : ix = iy
      · have h4 := hg h3
        have h5 := hsame.2 h3
        simp [h3, h4, h5, law04_DigestInputs.j3]
      · have h5 : ¬(x.f_Domain = y.f_Domain ∧ x.f_Parts = y.f_Parts) := fun h => h3 (hsame.1 h)
        simp [h3, h5, law04_DigestInputs.j3]
    by_cases hd : x.f_Domain = y.f_Domain
    · rw [if_pos (by simpa using hd)]
      exact hrest _ (fun h => ⟨hd, by have := of_decide_eq_true h; omega⟩) (fun h hc => by simp [hc.2] at h)
    · rw [if_neg (by simpa using hd)]
      exact hrest _ (fun h => by cases h) (fun _ hc => hd hc.1)
end Go.Proofs.YtbhehllkimedaaaDoor
