/- Plain laws: P50, P51, P52, P53, P55, as one text. -/
import Derived.Test.YteboiefnflipjaaGreatDoorP24
import Derived.Test.YteboiefnflipjaaGreatDoorP33t
import Derived.Test.YteboiefnflipjaaGreatDoorP32
namespace Go.Proofs.YteboiefnflipjaaGreatDoor
open Go Go.RowKit Go.Proofs
section
set_option linter.unusedVariables false

/- The first place of a kind. -/
def fi (P : Nat → Bool) : Nat → Int
  | 0 => -1
  | i + 1 => if 0 ≤ fi P i then fi P i else if P i = true then (i : Int) else -1
theorem D9 (P : Nat → Bool) (i : Nat) : fi P (i + 1) = if 0 ≤ fi P i then fi P i else if P i = true then (i : Int) else -1 := rfl
theorem GS (P : Nat → Bool) : ∀ n, -1 ≤ fi P n ∧ fi P n < n
  | 0 => by simp [fi]
  | n + 1 => by
    have := GS P n
    rw [D9]
    split
    · omega
    · split <;> omega
theorem IK (P : Nat → Bool) (i : Nat) (h : 0 ≤ fi P i) : ∀ k, fi P (i + k) = fi P i
  | 0 => rfl
  | k + 1 => by
    show fi P (i + k + 1) = _
    rw [D9, IK P i h k, if_pos h]
theorem Pl (P : Nat → Bool) : ∀ n, 0 ≤ fi P n → P (fi P n).toNat = true
  | 0, h => by simp [fi] at h
  | n + 1, h => by
    rw [D9] at h ⊢
    by_cases a : 0 ≤ fi P n
    · rw [if_pos a]; exact Pl P n a
    · rw [if_neg a] at h ⊢
      by_cases b : P n = true
      · rw [if_pos b]; simpa using b
      · rw [if_neg b] at h; exact absurd h (by decide)
def JY (d : List UInt8) (t : Ao) : Bool := decide (t.Bt = d)
noncomputable def Gg (r : Aa) (d : List UInt8) : Int := fi (fun i => JY d (r.Ay.getD i default)) r.Ay.length
theorem Hr (r : Aa) (d : List UInt8) (hl : r.Ay.length < 1000000) : DO r d = some (Gg r d) := by
  have hg : ∀ t, Eg t d = some (JY d t) := fun t => rfl
  unfold DO
  refine Ax (x := Gg r d) ?_ rfl
  unfold Gg
  generalize r.Ay = l at hl
  unfold Bo
  obtain ⟨c, h1, h2⟩ := B7 (body := fun s : Int => Bo.b1 l (fun x => Eg x d) s) (fun s => ∃ i : Nat, i ≤ l.length ∧ s = (i : Int) ∧ fi (fun i => JY d (l.getD i default)) i = -1)
      (fun c => match c with | .next s => fi (fun i => JY d (l.getD i default)) l.length = -1 | .ret r => fi (fun i => JY d (l.getD i default)) l.length = r) (fun s => (l.length - s).toNat)
      (fun s ⟨i, hi, hs, hf⟩ => by
        subst hs
        have e1 : ((i : Nat) : Int).toNat = i := by omega
        by_cases q : i < l.length
        · by_cases w : JY d (l.getD i default) = true
          · refine .inr (.inr ⟨(i : Int), ?_, ?_⟩)
            · show Bo.b1 l _ (i : Int) = _
              unfold Bo.b1
              rw [if_pos (by simp; omega), if_pos (by omega), e1]
              refine Ax (hg _) ?_
              rw [if_pos w]
            · have e2 : fi (fun i => JY d (l.getD i default)) (i + 1) = (i : Int) := by
                rw [D9, hf, if_neg (by decide), if_pos w]
              have := IK (fun i => JY d (l.getD i default)) (i + 1) (by rw [e2]; omega) (l.length - (i + 1))
              rw [show i + 1 + (l.length - (i + 1)) = l.length by omega, e2] at this
              exact this
          · refine .inl ⟨((i + 1 : Nat) : Int), ?_, ⟨i + 1, by omega, rfl, ?_⟩, by simp; omega⟩
            · show Bo.b1 l _ (i : Int) = _
              unfold Bo.b1
              rw [if_pos (by simp; omega), if_pos (by omega), e1]
              refine Ax (hg _) ?_
              rw [if_neg w, Er (by omega)]
              rfl
            · rw [D9, hf, if_neg (by decide), if_neg w]
        · have : i = l.length := by omega
          subst this
          refine .inr (.inl ⟨(l.length : Int), ?_, hf⟩)
          show Bo.b1 l _ (l.length : Int) = _
          unfold Bo.b1
          rw [if_neg (by simp)]) (((l.length : Int) - 0 : Int).toNat + 2) 0 ⟨0, by omega, rfl, rfl⟩ (by simp)
  cases c with
  | ret r =>
    have h2 : fi (fun i => JY d (l.getD i default)) l.length = r := h2
    rw [h2]
    exact Ax h1 rfl
  | next s =>
    have h2 : fi (fun i => JY d (l.getD i default)) l.length = -1 := h2
    rw [h2]
    exact Bz h1 rfl
/-- Whether a root is there, by the document's count. -/
theorem P6 (r : Aa) (d : List UInt8) (now : Int) (hl : r.Ay.length < 1000000) : ∃ k, BA r d now = some k ∧ (k = 31 ↔ Gg r d < 0) := by
  unfold BA
  obtain ⟨c, h1, h2⟩ := B7 (body := fun s : Int => BA.b1 r d now s) (fun s => ∃ i : Nat, i ≤ r.Ay.length ∧ s = (i : Int) ∧ fi (fun i => JY d (r.Ay.getD i default)) i = -1)
      (fun c => match c with | .next s => Gg r d < 0 | .ret k => (k = 36 ∨ k = 0) ∧ 0 ≤ Gg r d) (fun s => (r.Ay.length - s).toNat)
      (fun s ⟨i, hi, hs, hf⟩ => by
        subst hs
        have e1 : ((i : Nat) : Int).toNat = i := by omega
        by_cases q : i < r.Ay.length
        · by_cases w : (r.Ay.getD i default).Bt = d
          · have e2 : fi (fun i => JY d (r.Ay.getD i default)) (i + 1) = (i : Int) := by
              rw [D9, hf, if_neg (by decide), if_pos (by unfold JY; exact decide_eq_true w)]
            have e3 := IK (fun i => JY d (r.Ay.getD i default)) (i + 1) (by rw [e2]; omega) (r.Ay.length - (i + 1))
            rw [show i + 1 + (r.Ay.length - (i + 1)) = r.Ay.length by omega, e2] at e3
            have e4 : 0 ≤ Gg r d := by unfold Gg; rw [e3]; omega
            by_cases z : now < (r.Ay.getD i default).GU
            · refine .inr (.inr ⟨36, ?_, .inl rfl, e4⟩)
              show BA.b1 r d now (i : Int) = _
              unfold BA.b1
              rw [if_pos (by simp; omega), if_pos (by omega), e1, if_pos (decide_eq_true w), if_pos (decide_eq_true z)]
            · refine .inr (.inr ⟨0, ?_, .inr rfl, e4⟩)
              show BA.b1 r d now (i : Int) = _
              unfold BA.b1
              rw [if_pos (by simp; omega), if_pos (by omega), e1, if_pos (decide_eq_true w), if_neg (by rw [decide_eq_false z]; decide)]
          · refine .inl ⟨((i + 1 : Nat) : Int), ?_, ⟨i + 1, by omega, rfl, ?_⟩, by simp; omega⟩
            · show BA.b1 r d now (i : Int) = _
              unfold BA.b1
              rw [if_pos (by simp; omega), if_pos (by omega), e1, if_neg (by rw [decide_eq_false w]; decide), Er (by omega)]
              rfl
            · rw [D9, hf, if_neg (by decide), if_neg (by unfold JY; rw [decide_eq_false w]; decide)]
        · have : i = r.Ay.length := by omega
          refine .inr (.inl ⟨(i : Int), ?_, ?_⟩)
          · show BA.b1 r d now (i : Int) = _
            unfold BA.b1
            rw [if_neg (by simp; omega)]
          · show Gg r d < 0
            unfold Gg
            rw [← this, hf]; decide) (((r.Ay.length : Int) - 0 : Int).toNat + 2) 0 ⟨0, by omega, rfl, rfl⟩ (by simp)
  cases c with
  | ret k =>
    have h2 : (k = 36 ∨ k = 0) ∧ 0 ≤ Gg r d := h2
    exact ⟨k, Ax h1 rfl, by omega⟩
  | next s =>
    have h2 : Gg r d < 0 := h2
    exact ⟨31, Bz h1 rfl, by simp [h2]⟩
noncomputable def MO (r : Aa) (u : AI) : Int :=
  if r.Bj = true then 30 else if r.BR = true then 34 else if u.B0 ≠ r.AX then 38 else if u.Eu ≠ r.AN then 32 else if IX r.AQ u = false then 21 else 0
theorem MT (r : Aa) {u : AI} (h : MH u) : Eo none r u = some (MO r u, none) := by
  obtain ⟨L, a1, a2⟩ := OQ none r.AQ h
  rw [a2 rfl] at a1
  unfold Eo MO
  by_cases h1 : r.Bj = true
  · rw [if_pos h1]
    refine Ax (x := 30) (by unfold Cy; rw [if_pos h1]) ?_
    rw [if_pos (by decide)]
  rw [if_neg h1]
  by_cases h2 : r.BR = true
  · rw [if_pos h2]
    refine Ax (x := 34) (by unfold Cy; rw [if_neg h1, if_pos h2]) ?_
    rw [if_pos (by decide)]
  rw [if_neg h2]
  refine Ax (x := 0) (by unfold Cy; rw [if_neg h1, if_neg h2]) ?_
  rw [if_neg (by decide)]
  by_cases h3 : u.B0 = r.AX
  · rw [if_neg (show ¬ (!decide (u.B0 = r.AX)) = true by rw [decide_eq_true h3]; decide), if_neg (show ¬ u.B0 ≠ r.AX from fun q => q h3)]
    by_cases h4 : u.Eu = r.AN
    · rw [if_neg (show ¬ (!decide (u.Eu = r.AN)) = true by rw [decide_eq_true h4]; decide), if_neg (show ¬ u.Eu ≠ r.AN from fun q => q h4)]
      refine Ax a1 ?_
      cases IX r.AQ u <;> simp
    · rw [if_pos (show (!decide (u.Eu = r.AN)) = true by rw [decide_eq_false h4]; rfl), if_pos (show u.Eu ≠ r.AN from h4)]
  · rw [if_pos (show (!decide (u.B0 = r.AX)) = true by rw [decide_eq_false h3]; rfl), if_pos (show u.B0 ≠ r.AX from h3)]
/-- The roots behind an update. -/
noncomputable def H3 (r : Aa) (d : List UInt8) (at_ : Int) : List Ao :=
  if 0 ≤ Gg r d then r.Ay.set (Gg r d).toNat ⟨d, at_⟩ else r.Ay ++ [⟨d, at_⟩]
noncomputable def GL (r : Aa) (now : Int) (u : AI) : Aa × Int :=
  if MO r u ≠ 0 then (r, MO r u) else if Gg r u.BN < 0 ∧ 256 ≤ r.Ay.length then (r, 6) else if 18446744073709551616 ≤ now + r.A4 then (r, 10) else
    (⟨r.AX, r.BC, r.AQ, r.AP, r.A4, u.BN, H3 r u.BN (now + r.A4), r.Ah, r.Bj, r.BR⟩, 0)
theorem Nt (r : Aa) (d : List UInt8) (h : 0 ≤ Gg r d) : (r.Ay.getD (Gg r d).toNat default).Bt = d := by
  have := Pl (fun i => JY d (r.Ay.getD i default)) r.Ay.length h
  exact of_decide_eq_true this
theorem Ns (r : Aa) (d : List UInt8) : -1 ≤ Gg r d ∧ Gg r d < r.Ay.length := GS _ _
theorem Lh (r : Aa) (now : Int) {u : AI} (h : MH u) (hl : r.Ay.length ≤ 1000) (hw : 0 ≤ r.A4 ∧ r.A4 < 18446744073709551616) (hn : 0 ≤ now ∧ now < 18446744073709551616) :
    BZ none r now u = some ((GL r now u).1, (GL r now u).2, none) := by
  have hr := Ns r u.BN
  have ha := Nt r u.BN
  unfold BZ GL
  refine Ax (MT r h) ?_
  by_cases h0 : MO r u = 0
  · rw [if_neg (by simp [h0]), if_neg (by simp [h0])]
    refine Ax (Hr r u.BN (by omega)) ?_
    have key : ∀ b : Bool, (b = true ↔ Gg r u.BN < 0 ∧ 256 ≤ r.Ay.length) → BZ.j1 r now u (MO r u, none) (Gg r u.BN) b = some ((if Gg r u.BN < 0 ∧ 256 ≤ r.Ay.length then (r, 6) else if 18446744073709551616 ≤ now + r.A4 then (r, 10) else
        ((⟨r.AX, r.BC, r.AQ, r.AP, r.A4, u.BN, H3 r u.BN (now + r.A4), r.Ah, r.Bj, r.BR⟩ : Aa), (0 : Int))).1, (if Gg r u.BN < 0 ∧ 256 ≤ r.Ay.length then (r, 6) else if 18446744073709551616 ≤ now + r.A4 then (r, 10) else
        ((⟨r.AX, r.BC, r.AQ, r.AP, r.A4, u.BN, H3 r u.BN (now + r.A4), r.Ah, r.Bj, r.BR⟩ : Aa), (0 : Int))).2, none) := by
      intro b hb
      unfold BZ.j1
      by_cases q : Gg r u.BN < 0 ∧ 256 ≤ r.Ay.length
      · rw [if_pos (hb.2 q), if_pos q]
      · rw [if_neg (fun w => q (hb.1 w)), if_neg q]
        unfold G8
        rw [Int.add_zero]
        by_cases z : 18446744073709551616 ≤ now + r.A4
        · rw [if_neg (by rw [decide_eq_false (by omega)]; decide)]
          refine Ax (x := ((0 : Int), (10 : Int))) rfl ?_
          rw [if_pos (by decide), if_pos z]
        · have em : (now + r.A4) % 18446744073709551616 = now + r.A4 := by omega
          rw [if_pos (decide_eq_true (by omega)), em]
          refine Ax (x := (now + r.A4, (0 : Int))) rfl ?_
          rw [if_neg (by simp), if_neg z]
          refine Ax (x := r.Ay) (by unfold C3; rw [if_pos (by omega)]) ?_
          unfold H3 BZ.j2
          by_cases y : 0 ≤ Gg r u.BN
          · rw [if_pos (decide_eq_true y), if_pos ⟨y, hr.2⟩, if_pos y, ha y]
          · rw [if_neg (by rw [decide_eq_false y]; decide), if_pos (by simp [CW]; omega), if_neg y]
    by_cases y : Gg r u.BN < 0
    · rw [if_pos (decide_eq_true y)]
      exact key _ (by simp [y]; omega)
    · rw [if_neg (by rw [decide_eq_false y]; decide)]
      exact key _ (by simp [y])
  · rw [if_pos (by simp [h0]), if_pos h0]
theorem RS (r : Aa) (u : AI) (at_ e : Int) (hl : r.Ay.length ≤ 1000) :
    ∃ z, Bu (fun s : Bool × Int × (List (Ao)) => Bf.b1 r u (at_, e) s.1 s.2.1 s.2.2) (((r.Ay.length : Int) - 0 : Int).toNat + 2) (false, 0, []) = some (.next (decide (0 ≤ Gg r u.BN), z, if 0 ≤ Gg r u.BN then r.Ay.set (Gg r u.BN).toNat ⟨u.BN, at_⟩ else r.Ay)) := by
  generalize hP : (fun i => JY u.BN (r.Ay.getD i default)) = P
  have hI : Gg r u.BN = fi P r.Ay.length := by rw [← hP]; rfl
  have hPi : ∀ i, P i = decide ((r.Ay.getD i default).Bt = u.BN) := fun i => by rw [← hP]; rfl
  let R : Nat → List Ao := fun i => if 0 ≤ fi P i then (r.Ay.take i).set (fi P i).toNat ⟨u.BN, at_⟩ else r.Ay.take i
  have hR : ∀ i, R i = if 0 ≤ fi P i then (r.Ay.take i).set (fi P i).toNat ⟨u.BN, at_⟩ else r.Ay.take i := fun i => rfl
  have hlen : ∀ i, i ≤ r.Ay.length → (R i).length = i := by
    intro i hi
    rw [hR]
    split <;> simp <;> omega
  obtain ⟨c, h1, h2⟩ := B7 (body := fun s : Bool × Int × (List (Ao)) => Bf.b1 r u (at_, e) s.1 s.2.1 s.2.2) (fun s => ∃ i : Nat, i ≤ r.Ay.length ∧ s = (decide (0 ≤ fi P i), (i : Int), R i))
      (fun c => match c with | .next s => s.1 = decide (0 ≤ fi P r.Ay.length) ∧ s.2.2 = R r.Ay.length | .ret _ => False) (fun s => (r.Ay.length - s.2.1).toNat)
      (fun s ⟨i, hi, hs⟩ => by
        subst hs
        have e1 : ((i : Nat) : Int).toNat = i := by omega
        by_cases q : i < r.Ay.length
        · refine .inl ⟨(decide (0 ≤ fi P (i + 1)), ((i + 1 : Nat) : Int), R (i + 1)), ?_, ⟨i + 1, by omega, rfl⟩, by simp; omega⟩
          show Bf.b1 r u (at_, e) (decide (0 ≤ fi P i)) (i : Int) (R i) = _
          have hPq := hPi i
          have hrg := GS P i
          have hL := hlen i hi
          have e2 : IntKind.wrap .i64 ((i : Int) + 1) = ((i + 1 : Nat) : Int) := by rw [Er (by omega)]; rfl
          have hg : r.Ay.getD i default = r.Ay[i] := by simp [List.getD, q]
          have ht : r.Ay.take (i + 1) = r.Ay.take i ++ [r.Ay[i]] := List.take_succ_eq_append_getElem q
          have k3 : ∀ (b : Bool) (x : Ao), Bf.j3 (i : Int) (R i) b x = some (.cont (b, ((i + 1 : Nat) : Int), R i ++ [x])) := by
            intro b x
            unfold Bf.j3
            rw [if_pos (by simp [CW]; omega), e2]
          have stay : ¬ (P i = true ∧ fi P i < 0) → R (i + 1) = R i ++ [r.Ay[i]] ∧ fi P (i + 1) = fi P i := by
            intro w
            have ef : fi P (i + 1) = fi P i := by
              rw [D9]
              by_cases a : 0 ≤ fi P i
              · rw [if_pos a]
              · rw [if_neg a, if_neg (fun b => w ⟨b, by omega⟩)]; omega
            refine ⟨?_, ef⟩
            rw [hR, hR, ef, ht]
            by_cases a : 0 ≤ fi P i
            · rw [if_pos a, if_pos a, List.set_append_left _ _ (by simp; omega)]
            · rw [if_neg a, if_neg a]
          unfold Bf.b1
          rw [if_pos (by simp; omega), if_pos (by omega), e1]
          by_cases w : (r.Ay.getD i default).Bt = u.BN
          · rw [if_pos (decide_eq_true w)]
            unfold Bf.j2
            rw [e1]
            by_cases a : 0 ≤ fi P i
            · obtain ⟨s1, s2⟩ := stay (fun z => by omega)
              rw [decide_eq_true a, if_neg (by decide), k3, s1, s2, hg, decide_eq_true a]
            · rw [decide_eq_false a, if_pos (by decide), k3]
              have ef : fi P (i + 1) = (i : Int) := by
                rw [D9, if_neg a, if_pos (by rw [hPq]; exact decide_eq_true w)]
              have hR1 : R (i + 1) = R i ++ [⟨(r.Ay.getD i default).Bt, at_⟩] := by
                rw [hR, hR, ef, if_pos (by omega), if_neg a, e1, ht, w, List.set_append_right _ _ (by simp; omega)]
                have : i - (r.Ay.take i).length = 0 := by simp; omega
                rw [this]; rfl
              rw [hR1, ef, decide_eq_true (show (0 : Int) ≤ (i : Int) by omega)]
          · rw [if_neg (by rw [decide_eq_false w]; decide)]
            obtain ⟨s1, s2⟩ := stay (fun z => by rw [hPq] at z; exact w (of_decide_eq_true z.1))
            unfold Bf.j2
            rw [if_neg (by decide), e1, k3, s1, s2, hg]
        · have : i = r.Ay.length := by omega
          subst this
          refine .inr (.inl ⟨(decide (0 ≤ fi P r.Ay.length), (r.Ay.length : Int), R r.Ay.length), ?_, rfl, rfl⟩)
          show Bf.b1 r u (at_, e) _ (r.Ay.length : Int) _ = _
          unfold Bf.b1
          rw [if_neg (by simp)]) (((r.Ay.length : Int) - 0 : Int).toNat + 2) (false, 0, []) ⟨0, by omega, rfl⟩ (by simp)
  cases c with
  | ret k => exact h2.elim
  | next s =>
    have h2 : s.1 = decide (0 ≤ fi P r.Ay.length) ∧ s.2.2 = R r.Ay.length := h2
    refine ⟨s.2.1, ?_⟩
    rw [h1, hI]
    obtain ⟨a, b, c⟩ := s
    simp only at h2
    rw [h2.1, h2.2, hR, List.take_length]
theorem Kd (r : Aa) (now : Int) {u : AI} (h : MH u) (hl : r.Ay.length ≤ 1000) (hw : 0 ≤ r.A4 ∧ r.A4 < 18446744073709551616) (hn : 0 ≤ now ∧ now < 18446744073709551616) :
    Bf none r now u = some ((GL r now u).1, (GL r now u).2, none) := by
  have a1 := P3 r.AQ h
  obtain ⟨k, k1, k2⟩ := P6 r u.BN now (by omega)
  have no : ∀ k : Int, k ≠ 0 → MO r u = k → GL r now u = (r, k) := fun k hk e => by
    unfold GL
    rw [if_pos (show MO r u ≠ 0 by rw [e]; exact hk), e]
  unfold Bf
  by_cases h1 : r.Bj = true
  · rw [if_pos h1, no 30 (by decide) (by unfold MO; rw [if_pos h1])]
  rw [if_neg h1]
  by_cases h2 : r.BR = true
  · rw [if_pos h2, no 34 (by decide) (by unfold MO; rw [if_neg h1, if_pos h2])]
  rw [if_neg h2]
  by_cases h3 : u.B0 = r.AX
  · rw [if_neg (show ¬ (!decide (u.B0 = r.AX)) = true by rw [decide_eq_true h3]; decide)]
    by_cases h4 : u.Eu = r.AN
    · rw [if_neg (show ¬ (!decide (u.Eu = r.AN)) = true by rw [decide_eq_true h4]; decide)]
      refine Ax a1 ?_
      have ht : MO r u = if IX r.AQ u = false then 21 else 0 := by
        unfold MO
        rw [if_neg h1, if_neg h2, if_neg (show ¬ u.B0 ≠ r.AX from fun q => q h3), if_neg (show ¬ u.Eu ≠ r.AN from fun q => q h4)]
      cases hv : IX r.AQ u with
      | false =>
        rw [no 21 (by decide) (by rw [ht, if_pos hv])]
        rfl
      | true =>
        have h0 : MO r u = 0 := by rw [ht, hv]; rfl
        unfold GL
        rw [if_neg (show ¬ MO r u ≠ 0 from fun q => q h0), if_neg (show ¬ (!(true, (none : Option A2)).1) = true by simp)]
        refine Ax k1 ?_
        have key : ∀ b : Bool, (b = true ↔ Gg r u.BN < 0 ∧ 256 ≤ r.Ay.length) → Bf.j1 r now u (true, none) b = some ((if Gg r u.BN < 0 ∧ 256 ≤ r.Ay.length then (r, 6) else if 18446744073709551616 ≤ now + r.A4 then (r, 10) else
            ((⟨r.AX, r.BC, r.AQ, r.AP, r.A4, u.BN, H3 r u.BN (now + r.A4), r.Ah, r.Bj, r.BR⟩ : Aa), (0 : Int))).1, (if Gg r u.BN < 0 ∧ 256 ≤ r.Ay.length then (r, 6) else if 18446744073709551616 ≤ now + r.A4 then (r, 10) else
            ((⟨r.AX, r.BC, r.AQ, r.AP, r.A4, u.BN, H3 r u.BN (now + r.A4), r.Ah, r.Bj, r.BR⟩ : Aa), (0 : Int))).2, none) := by
          intro b hb
          unfold Bf.j1
          by_cases q : Gg r u.BN < 0 ∧ 256 ≤ r.Ay.length
          · rw [if_pos (hb.2 q), if_pos q]
          · rw [if_neg (fun w => q (hb.1 w)), if_neg q]
            unfold HK
            rw [Ih (x := 18446744073709551615 - r.A4) (by omega)]
            by_cases z : 18446744073709551616 ≤ now + r.A4
            · rw [if_pos (decide_eq_true (by omega)), if_pos z]
              refine Ax (x := ((0 : Int), (10 : Int))) rfl ?_
              rw [if_pos (by decide)]
            · rw [if_neg (by rw [decide_eq_false (by omega)]; decide), if_neg z, Ih (x := now + r.A4) (by omega)]
              refine Ax (x := (now + r.A4, (0 : Int))) rfl ?_
              rw [if_neg (by simp)]
              obtain ⟨y, y1⟩ := RS r u (now + r.A4) 0 hl
              refine Bz y1 ?_
              unfold H3 Bf.j4
              by_cases w : 0 ≤ Gg r u.BN
              · simp only [if_pos w, decide_eq_true w]
                rw [if_neg (by decide)]
              · simp only [if_neg w, decide_eq_false w]
                rw [if_pos (by decide), if_pos (by simp [CW]; omega)]
        by_cases y : Gg r u.BN < 0
        · rw [if_pos (by rw [decide_eq_true (k2.2 y)]; decide)]
          exact key _ (by simp only [y, true_and]; simp; omega)
        · rw [if_neg (by rw [decide_eq_false (fun q => y (k2.1 q))]; decide)]
          exact key _ (by simp [y])
    · rw [if_pos (show (!decide (u.Eu = r.AN)) = true by rw [decide_eq_false h4]; rfl), no 32 (by decide) (by unfold MO; rw [if_neg h1, if_neg h2, if_neg (show ¬ u.B0 ≠ r.AX from fun q => q h3), if_pos (show u.Eu ≠ r.AN from h4)])]
  · rw [if_pos (show (!decide (u.B0 = r.AX)) = true by rw [decide_eq_false h3]; rfl), no 38 (by decide) (by unfold MO; rw [if_neg h1, if_neg h2, if_pos (show u.B0 ≠ r.AX from h3)])]
end

section
set_option linter.unusedVariables false

noncomputable def Ib (r : Aa) (s : A1) : Aa × Int :=
  if r.BR = true then (r, 34) else if ¬ (s.B0 = r.AX ∧ s.EP = r.AQ) then (r, 38) else if ¬ (0 ≤ s.Bn ∧ s.Bn < r.AP.length) then (r, 14) else
    if HD (r.AP.getD s.Bn.toNat default) s = false then (r, 21) else (⟨r.AX, r.BC, r.AQ, r.AP, r.A4, r.AN, r.Ay, r.Ah, r.Bj, true⟩, 0)
theorem Ol (r : Aa) {s : A1} (hs : MI s) : B9 none r s = some ((Ib r s).1, (Ib r s).2, none) := by
  obtain ⟨L, a1, a2⟩ := Pj none (r.AP.getD s.Bn.toNat default) hs
  rw [a2 rfl] at a1
  unfold B9 Ib
  by_cases h1 : r.BR = true
  · rw [if_pos h1, if_pos h1]
  rw [if_neg h1, if_neg h1]
  by_cases h2 : s.B0 = r.AX ∧ s.EP = r.AQ
  · rw [if_neg (show ¬ (!decide (s.B0 = r.AX)) = true by rw [decide_eq_true h2.1]; decide), decide_eq_true h2.2, if_neg (show ¬ ¬ (s.B0 = r.AX ∧ s.EP = r.AQ) from fun q => q h2)]
    unfold B9.j1
    rw [if_neg (by decide)]
    by_cases h3 : s.Bn < 0
    · rw [if_pos (decide_eq_true h3), if_pos (show ¬ (0 ≤ s.Bn ∧ s.Bn < r.AP.length) by omega)]
      unfold B9.j2
      rw [if_pos rfl]
    · rw [if_neg (by rw [decide_eq_false h3]; decide)]
      unfold B9.j2
      by_cases h4 : s.Bn < r.AP.length
      · rw [decide_eq_false (show ¬ (r.AP.length : Int) ≤ s.Bn by omega), if_neg (show ¬ (false = true) by decide), if_pos (show 0 ≤ s.Bn ∧ s.Bn < r.AP.length by omega), if_neg (show ¬ ¬ (0 ≤ s.Bn ∧ s.Bn < r.AP.length) by omega)]
        refine Ax a1 ?_
        cases HD (r.AP.getD s.Bn.toNat default) s <;> rfl
      · rw [decide_eq_true (show (r.AP.length : Int) ≤ s.Bn by omega), if_pos rfl, if_pos (show ¬ (0 ≤ s.Bn ∧ s.Bn < r.AP.length) by omega)]
  · rw [if_pos (show ¬ (s.B0 = r.AX ∧ s.EP = r.AQ) from h2)]
    have hj : B9.j1 none r s true = some (r, 38, none) := by
      unfold B9.j1
      rw [if_pos rfl]
    by_cases h5 : s.B0 = r.AX
    · rw [if_neg (show ¬ (!decide (s.B0 = r.AX)) = true by rw [decide_eq_true h5]; decide), decide_eq_false (fun q => h2 ⟨h5, q⟩)]
      exact hj
    · rw [if_pos (show (!decide (s.B0 = r.AX)) = true by rw [decide_eq_false h5]; rfl)]
      exact hj
theorem M0 (r : Aa) {s : A1} (hs : MI s) (hl : r.AP.length ≤ 1000) : Ce none r s = some ((Ib r s).1, (Ib r s).2, none) := by
  unfold Ce Ib
  by_cases h1 : r.BR = true
  · rw [if_pos h1, if_pos h1]
  rw [if_neg h1, if_neg h1]
  by_cases h2 : s.B0 = r.AX ∧ s.EP = r.AQ
  · rw [if_neg (show ¬ (!decide (s.B0 = r.AX)) = true by rw [decide_eq_true h2.1]; decide), decide_eq_true h2.2, if_neg (show ¬ ¬ (s.B0 = r.AX ∧ s.EP = r.AQ) from fun q => q h2)]
    unfold Ce.j1
    rw [if_neg (by decide)]
    obtain ⟨c, h3, h4⟩ := B7 (body := fun z : Int => Ce.b1 none r s z) (fun z => ∃ i : Nat, i ≤ r.AP.length ∧ z = (i : Int) ∧ (0 ≤ s.Bn → (i : Int) ≤ s.Bn))
        (fun c => match c with | .next _ => ¬ (0 ≤ s.Bn ∧ s.Bn < r.AP.length) | .ret k => (0 ≤ s.Bn ∧ s.Bn < r.AP.length) ∧ k = (if HD (r.AP.getD s.Bn.toNat default) s = false then (r, 21, none) else (⟨r.AX, r.BC, r.AQ, r.AP, r.A4, r.AN, r.Ay, r.Ah, r.Bj, true⟩, 0, none))) (fun z => (r.AP.length - z).toNat)
        (fun z ⟨i, hi, hz, hj⟩ => by
          subst hz
          by_cases q : i < r.AP.length
          · by_cases w : (i : Int) = s.Bn
            · refine .inr (.inr ⟨_, ?_, by omega, rfl⟩)
              show Ce.b1 none r s (i : Int) = _
              unfold Ce.b1
              rw [if_pos (by simp; omega), if_pos (by omega), if_pos (decide_eq_true w), w]
              refine Ax (P5 _ hs) ?_
              cases HD (r.AP.getD s.Bn.toNat default) s <;> rfl
            · refine .inl ⟨((i + 1 : Nat) : Int), ?_, ⟨i + 1, by omega, rfl, fun z => by have := hj z; omega⟩, by simp; omega⟩
              show Ce.b1 none r s (i : Int) = _
              unfold Ce.b1
              rw [if_pos (by simp; omega), if_pos (by omega), if_neg (by rw [decide_eq_false w]; decide), Er (by omega)]
              rfl
          · refine .inr (.inl ⟨(i : Int), ?_, ?_⟩)
            · show Ce.b1 none r s (i : Int) = _
              unfold Ce.b1
              rw [if_neg (by simp; omega)]
            · show ¬ (0 ≤ s.Bn ∧ s.Bn < r.AP.length)
              intro ⟨z1, z2⟩
              have := hj z1
              omega) (((r.AP.length : Int) - 0 : Int).toNat + 2) 0 ⟨0, by omega, rfl, fun z => by simpa using z⟩ (by simp)
    cases c with
    | ret k =>
      have h4 : (0 ≤ s.Bn ∧ s.Bn < r.AP.length) ∧ k = (if HD (r.AP.getD s.Bn.toNat default) s = false then (r, 21, none) else (⟨r.AX, r.BC, r.AQ, r.AP, r.A4, r.AN, r.Ay, r.Ah, r.Bj, true⟩, 0, none)) := h4
      rw [if_neg (show ¬ ¬ (0 ≤ s.Bn ∧ s.Bn < r.AP.length) from fun q => q h4.1)]
      refine Ax h3 ?_
      show some k = _
      rw [h4.2]
      cases HD (r.AP.getD s.Bn.toNat default) s <;> rfl
    | next z =>
      have h4 : ¬ (0 ≤ s.Bn ∧ s.Bn < r.AP.length) := h4
      rw [if_pos (show ¬ (0 ≤ s.Bn ∧ s.Bn < r.AP.length) from h4)]
      exact Bz h3 rfl
  · rw [if_pos (show ¬ (s.B0 = r.AX ∧ s.EP = r.AQ) from h2)]
    have hj : Ce.j1 none r s true = some (r, 38, none) := by
      unfold Ce.j1
      rw [if_pos rfl]
    by_cases h5 : s.B0 = r.AX
    · rw [if_neg (show ¬ (!decide (s.B0 = r.AX)) = true by rw [decide_eq_true h5]; decide), decide_eq_false (fun q => h2 ⟨h5, q⟩)]
      exact hj
    · rw [if_pos (show (!decide (s.B0 = r.AX)) = true by rw [decide_eq_false h5]; rfl)]
      exact hj
theorem Q9 (r : Aa) (h1 : r.AP.length < 1000000) (h2 : r.Ay.length < 1000000) (h3 : r.Ah.length < 1000000) : BE r r = some true := by
  have hj : BE.j1 r r false = some true := by
    unfold BE.j1
    rw [if_neg (by decide)]
    obtain ⟨c, k1, k2⟩ := B7 (body := fun s : Int => BE.b1 r r s) (fun s => ∃ i : Nat, i ≤ r.Ay.length ∧ s = (i : Int)) (fun c => match c with | .next _ => True | .ret _ => False) (fun s => (r.Ay.length - s).toNat)
      (fun s ⟨i, hi, hs⟩ => by
        subst hs
        by_cases q : i < r.Ay.length
        · refine .inl ⟨((i + 1 : Nat) : Int), ?_, ⟨i + 1, by omega, rfl⟩, by simp; omega⟩
          show BE.b1 r r (i : Int) = _
          unfold BE.b1
          rw [if_pos (by simp; omega), if_pos (by omega), if_pos (by omega), if_neg (by simp), Er (by omega)]
          rfl
        · refine .inr (.inl ⟨(i : Int), ?_, trivial⟩)
          show BE.b1 r r (i : Int) = _
          unfold BE.b1
          rw [if_neg (by simp; omega)]) (((r.Ay.length : Int) - 0 : Int).toNat + 2) 0 ⟨0, by omega, rfl⟩ (by simp)
    obtain ⟨d, m1, m2⟩ := B7 (body := fun s : Int => BE.b2 r r s) (fun s => ∃ i : Nat, i ≤ r.Ah.length ∧ s = (i : Int)) (fun c => match c with | .next _ => True | .ret _ => False) (fun s => (r.Ah.length - s).toNat)
      (fun s ⟨i, hi, hs⟩ => by
        subst hs
        by_cases q : i < r.Ah.length
        · refine .inl ⟨((i + 1 : Nat) : Int), ?_, ⟨i + 1, by omega, rfl⟩, by simp; omega⟩
          show BE.b2 r r (i : Int) = _
          unfold BE.b2
          rw [if_pos (by simp; omega), if_pos (by omega), if_pos (by omega), if_neg (by simp), Er (by omega)]
          rfl
        · refine .inr (.inl ⟨(i : Int), ?_, trivial⟩)
          show BE.b2 r r (i : Int) = _
          unfold BE.b2
          rw [if_neg (by simp; omega)]) (((r.Ah.length : Int) - 0 : Int).toNat + 2) 0 ⟨0, by omega, rfl⟩ (by simp)
    cases c with
    | ret _ => exact k2.elim
    | next _ =>
      refine Bz k1 ?_
      cases d with
      | ret _ => exact m2.elim
      | next _ => exact Bz m1 rfl
  unfold BE
  rw [if_neg (by simp), if_neg (by simp), if_neg (by simp), if_neg (by simp), if_neg (by simp), if_neg (by simp), if_neg (by simp)]
  refine Ax (x := true) ((RM _ _ h1).trans (by simp)) ?_
  rw [if_neg (by decide), if_neg (by simp)]
  simpa using hj
theorem Ps (l : List (List UInt8)) (h : l.length ≤ 1000000) : BO l = some l := by
  unfold BO
  rw [if_pos (by omega)]
theorem Nh : ∃ d L, EE none (Ar.mk 1 (0 : Int) 2 [] [] []) = some (d, L) := by
  have w : ∀ x : Int, 0 ≤ x ∧ x < 4294967296 → Dn x = some (H0 x) := fun x h => KZ h
  have t : EH [] = some (HC ((0 : Nat) : Int)) := (Ik [] (by simp)).trans (by simp)
  have hp : EL (Ar.mk 1 (0 : Int) 2 [] [] []) = some (H0 1 ++ H0 0 ++ H0 2 ++ HC ((0 : Nat) : Int) ++ HC ((0 : Nat) : Int) ++ HC ((0 : Nat) : Int)) := by
    unfold EL
    refine Ax (w 1 (by omega)) (Ax (w 0 (by omega)) ?_)
    rw [if_pos (by simp [H0, HC, CW])]
    refine Ax (w 2 (by omega)) ?_
    rw [if_pos (by simp [H0, HC, CW])]
    refine Ax t ?_
    rw [if_pos (by simp [H0, HC, CW])]
    refine Ax t ?_
    rw [if_pos (by simp [H0, HC, CW])]
    refine Ax t ?_
    rw [if_pos (by simp [H0, HC, CW])]
  have hS : Small [H0 1 ++ H0 0 ++ H0 2 ++ HC ((0 : Nat) : Int) ++ HC ((0 : Nat) : Int) ++ HC ((0 : Nat) : Int)] := ⟨fun p hp => by rw [List.mem_singleton.1 hp]; simp [H0, HC], by simp⟩
  obtain ⟨L, a1, a2⟩ := PL none 5 hS
  exact ⟨_, _, by unfold EE; exact Ax hp (Ax a1 rfl)⟩
theorem Qz : DE = some true := by
  obtain ⟨d, L, hL⟩ := Nh
  unfold DE
  refine Ax (x := (⟨1, 2, ([B5 1] ++ List.replicate (32 - 1) 0), [], 5, List.replicate 32 0, [], [], false, false⟩ : Aa)) ?_ ?_
  · unfold E2
    exact Ax (Ps [] (by simp)) rfl
  · generalize ([B5 1] ++ List.replicate (32 - 1) 0 : List UInt8) = x
    generalize (List.replicate 32 0 : List UInt8) = y
    refine Ax (x := ((⟨1, 2, x, [], 5, y, [], [], false, false⟩ : Aa), (37 : Int), L)) ?_ rfl
    unfold BT
    refine Ax (x := 0) rfl ?_
    rw [if_neg (by decide), if_neg (by simp)]
    unfold BT.j1
    rw [if_neg (by simp)]
    refine Ax hL ?_
    refine Ax (x := -1) rfl ?_
    rw [if_pos (by decide)]
    unfold BT.j2
    rw [if_pos rfl]
theorem QF {x : Int} (h : E5 .u64 x) : 0 ≤ x ∧ x < 18446744073709551616 := by
  have h1 := h.1
  have h2 := h.2
  simp [IntKind.min, IntKind.max, IntKind.bits, IntKind.signed] at h1 h2
  omega
end

section
set_option linter.unusedVariables false

def JS (d : List UInt8) (t : Al) : Bool := decide (t.BJ = d)
noncomputable def DK (l : List Al) (d : List UInt8) : Int := fi (fun i => JS d (l.getD i default)) l.length
theorem IT (r : Aa) (d : List UInt8) (hl : r.Ah.length < 1000000) : Ee r d = some (DK r.Ah d) := by
  have hg : ∀ t, D4 t d = some (JS d t) := fun t => rfl
  unfold Ee
  refine Ax (x := DK r.Ah d) ?_ rfl
  unfold DK
  generalize r.Ah = l at hl
  unfold Bp
  obtain ⟨c, h1, h2⟩ := B7 (body := fun s : Int => Bp.b1 l (fun x => D4 x d) s) (fun s => ∃ i : Nat, i ≤ l.length ∧ s = (i : Int) ∧ fi (fun i => JS d (l.getD i default)) i = -1)
      (fun c => match c with | .next s => fi (fun i => JS d (l.getD i default)) l.length = -1 | .ret r => fi (fun i => JS d (l.getD i default)) l.length = r) (fun s => (l.length - s).toNat)
      (fun s ⟨i, hi, hs, hf⟩ => by
        subst hs
        have e1 : ((i : Nat) : Int).toNat = i := by omega
        by_cases q : i < l.length
        · by_cases w : JS d (l.getD i default) = true
          · refine .inr (.inr ⟨(i : Int), ?_, ?_⟩)
            · show Bp.b1 l _ (i : Int) = _
              unfold Bp.b1
              rw [if_pos (by simp; omega), if_pos (by omega), e1]
              refine Ax (hg _) ?_
              rw [if_pos w]
            · have e2 : fi (fun i => JS d (l.getD i default)) (i + 1) = (i : Int) := by
                rw [D9, hf, if_neg (by decide), if_pos w]
              have := IK (fun i => JS d (l.getD i default)) (i + 1) (by rw [e2]; omega) (l.length - (i + 1))
              rw [show i + 1 + (l.length - (i + 1)) = l.length by omega, e2] at this
              exact this
          · refine .inl ⟨((i + 1 : Nat) : Int), ?_, ⟨i + 1, by omega, rfl, ?_⟩, by simp; omega⟩
            · show Bp.b1 l _ (i : Int) = _
              unfold Bp.b1
              rw [if_pos (by simp; omega), if_pos (by omega), e1]
              refine Ax (hg _) ?_
              rw [if_neg w, Er (by omega)]
              rfl
            · rw [D9, hf, if_neg (by decide), if_neg w]
        · have : i = l.length := by omega
          subst this
          refine .inr (.inl ⟨(l.length : Int), ?_, hf⟩)
          show Bp.b1 l _ (l.length : Int) = _
          unfold Bp.b1
          rw [if_neg (by simp)]) (((l.length : Int) - 0 : Int).toNat + 2) 0 ⟨0, by omega, rfl, rfl⟩ (by simp)
  cases c with
  | ret r =>
    have h2 : fi (fun i => JS d (l.getD i default)) l.length = r := h2
    rw [h2]
    exact Ax h1 rfl
  | next s =>
    have h2 : fi (fun i => JS d (l.getD i default)) l.length = -1 := h2
    rw [h2]
    exact Bz h1 rfl
def RD (x : Ar) : List UInt8 := H0 x.D3 ++ H0 x.G3 ++ H0 x.FQ ++ (HC (x.Gw.length : Int) ++ x.Gw) ++ (HC (x.EZ.length : Int) ++ x.EZ) ++ (HC (x.G4.length : Int) ++ x.G4)
def ML (x : Ar) : Prop := (0 ≤ x.D3 ∧ x.D3 < 4294967296) ∧ (0 ≤ x.G3 ∧ x.G3 < 4294967296) ∧ (0 ≤ x.FQ ∧ x.FQ < 4294967296) ∧ x.Gw.length ≤ 1000 ∧ x.EZ.length ≤ 1000 ∧ x.G4.length ≤ 1000
theorem OA (i : Int) : (H0 i).length = 4 := by simp [H0, HC]
theorem Rp (i : Int) : (HC i).length = 4 := by simp [HC]
theorem Qh {x : Ar} (h : ML x) : (RD x).length ≤ 3024 := by
  obtain ⟨_, _, _, a, b, c⟩ := h
  simp only [RD, List.length_append, OA, Rp]
  omega
theorem LC {x : Ar} (h : ML x) : Small [RD x] := ⟨fun p hp => by rw [List.mem_singleton.1 hp]; have := Qh h; omega, by simp⟩
noncomputable def GN (x : Ar) : List UInt8 := H (KJ 5 [RD x])
theorem Qi {x : Ar} (h : ML x) : (GN x).length = 32 := ((LC h).H 5).2
theorem Mc {x : Ar} (h : ML x) : Fx none x = some (GN x, none) := by
  have hS := LC h
  obtain ⟨f, n, t, a, b, c⟩ := h
  unfold Fx
  refine Ax (x := RD x) ?_ (Ax (Kf 5 hS) rfl)
  unfold GB
  refine Ax (GQ _) (Ax (GQ _) ?_)
  rw [if_pos (by simp only [OA, CW]; omega)]
  refine Ax (GQ _) ?_
  rw [if_pos (by simp only [List.length_append, OA, CW]; omega)]
  refine Ax (Iu _ (by omega)) ?_
  rw [if_pos (by simp only [List.length_append, OA, Rp, CW]; omega)]
  refine Ax (Iu _ (by omega)) ?_
  rw [if_pos (by simp only [List.length_append, OA, Rp, CW]; omega)]
  refine Ax (Iu _ (by omega)) ?_
  rw [if_pos (by simp only [List.length_append, OA, Rp, CW]; omega)]
  rfl
end

section
set_option linter.unusedVariables false

noncomputable def n6 (a b : List UInt8) : List UInt8 := H (KJ 6 [a, b])
theorem O7 {a b : List UInt8} (ha : a.length = 32) (hb : b.length = 32) : (n6 a b).length = 32 := ((GD ha hb).H 6).2
/-- A climb, and its nodes noted. -/
noncomputable def GX : List (List UInt8) → Nat → List UInt8 → List UInt8
  | [], _, w => w
  | p :: ps, n, w => GX ps (n / 2) (if n % 2 = 1 then n6 p w else n6 w p)
end

section
set_option linter.unusedVariables false

theorem RK (a i : Nat) (hi : i < 32) : shr .u32 (a : Int) (i : Int) = ((a / 2 ^ i : Nat) : Int) := by
  unfold shr
  have e : min ((i : Nat) : Int).toNat IntKind.u32.bits = i := by
    have : IntKind.u32.bits = 32 := rfl
    rw [this]; omega
  have e2 : ((2 : Int) ^ i) = ((2 ^ i : Nat) : Int) := by simp
  rw [e, e2, Int.fdiv_eq_ediv_of_nonneg _ (Int.natCast_nonneg _)]
  exact (Int.natCast_ediv a (2 ^ i)).symm
theorem SD (x : Nat) (hx : x < 4294967296) : bits .and .u32 (x : Int) 1 = ((x % 2 : Nat) : Int) := by
  have := bits_mask .u32 32 (by decide) (fun n h0 h1 => Oy ⟨h0, by omega⟩) 1 (by omega) (x : Int) (by omega) (by omega)
  simpa using this
theorem QN (a i : Nat) (ha : a < 4294967296) (hi : i < 32) : (bits .and .u32 (shr .u32 (a : Int) (i : Int)) 1 = (1 : Int)) ↔ a / 2 ^ i % 2 = 1 := by
  rw [RK a i hi, SD _ (Nat.lt_of_le_of_lt (Nat.div_le_self _ _) ha)]
  omega
theorem Sb (a i : Nat) (ha : a < 4294967296) (hi : i < 32) : DG (a : Int) (i : Int) = some (decide (a / 2 ^ i % 2 = 1)) := by
  unfold DG
  obtain ⟨c, h1, h2⟩ := B7 (body := fun s : Int × Int => DG.b1 (i : Int) s.1 s.2) (fun s => ∃ k : Nat, k ≤ i ∧ s = (((a / 2 ^ k : Nat) : Int), (k : Int))) (fun c => match c with | .next s => s.1 = ((a / 2 ^ i : Nat) : Int) | .ret _ => False) (fun s => (i - s.2).toNat)
      (fun s ⟨k, hk, hs⟩ => by
        subst hs
        have hle : a / 2 ^ k ≤ a := Nat.div_le_self _ _
        by_cases q : k < i
        · have e : a / 2 ^ (k + 1) = a / 2 ^ k / 2 := by rw [Nat.pow_succ, Nat.div_div_eq_div_mul]
          refine .inl ⟨(((a / 2 ^ (k + 1) : Nat) : Int), ((k + 1 : Nat) : Int)), ?_, ⟨k + 1, by omega, rfl⟩, by simp; omega⟩
          show DG.b1 (i : Int) ((a / 2 ^ k : Nat) : Int) (k : Int) = _
          unfold DG.b1
          rw [e]
          generalize a / 2 ^ k = z at hle
          have e2 : (z : Int).tdiv 2 = ((z / 2 : Nat) : Int) := by rw [Int.tdiv_eq_ediv_of_nonneg (by omega)]; simp
          rw [if_pos (by simp; omega), e2, Oy (by omega), Er (by omega)]
          rfl
        · have : k = i := by omega
          subst this
          refine .inr (.inl ⟨(((a / 2 ^ k : Nat) : Int), (k : Int)), ?_, rfl⟩)
          show DG.b1 (k : Int) _ (k : Int) = _
          unfold DG.b1
          rw [if_neg (by simp)]) (((i : Int) - 0 : Int).toNat + 2) ((a : Int), 0) ⟨0, by omega, by simp⟩ (by simp)
  cases c with
  | ret _ => exact h2.elim
  | next s =>
    obtain ⟨s1, s2⟩ := s
    have h2 : s1 = ((a / 2 ^ i : Nat) : Int) := h2
    refine Bz h1 ?_
    show some (decide (s1.tmod 2 = 1)) = _
    rw [h2]
    generalize a / 2 ^ i = z
    have e : (z : Int).tmod 2 = ((z % 2 : Nat) : Int) := by rw [Int.tmod_eq_emod_of_nonneg (by omega)]; simp
    rw [e]
    congr 1
    rw [decide_eq_decide]
    omega
theorem LL : ∀ (ps : List (List UInt8)) (p : List UInt8) (n : Nat) (w : List UInt8), GX (ps ++ [p]) n w = if n / 2 ^ ps.length % 2 = 1 then n6 p (GX ps n w) else n6 (GX ps n w) p
  | [], p, n, w => by simp [GX]
  | q :: ps, p, n, w => by
    rw [List.cons_append, GX, LL ps p, GX, List.length_cons, Nat.pow_succ, Nat.mul_comm (2 ^ ps.length) 2, ← Nat.div_div_eq_div_mul]
theorem LK : ∀ {ps : List (List UInt8)} {n : Nat} {w : List UInt8}, (∀ p ∈ ps, p.length = 32) → w.length = 32 → (GX ps n w).length = 32
  | [], _, _, _, h => h
  | p :: ps, n, w, hp, h => by
    rw [GX]
    refine LK (fun q hq => hp q (by simp [hq])) ?_
    split
    · exact O7 (hp p (by simp)) h
    · exact O7 h (hp p (by simp))
theorem OF (l : List (List UInt8)) (k : Nat) (hk : k < l.length) : l.take (k + 1) = l.take k ++ [l.getD k default] := by
  rw [List.take_succ_eq_append_getElem hk]; simp [List.getD, hk]
end
end Go.Proofs.YteboiefnflipjaaGreatDoor
