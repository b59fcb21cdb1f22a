/- Plain laws: P1, P94, P95, P96, P97, P98, P99, P100, P101, as one text. -/
import Derived.Test.YtemnhknjphjpnaaDoorG3
import Derived.Lib.ItoaNum
import Derived.Lib.ItoaLen
import Derived.Laws.BitsLemmas
import Derived.Lib.TrimUEq
namespace Go.Proofs.YtemnhknjphjpnaaDoor
open Go Go.RowKit Go.Proofs
section
set_option linter.unusedVariables false

theorem AM {α β : Type} {o : Option α} {f : α → Option β} {x : α} {r : Option β} (h : o = some x) (h2 : f x = r) : o.bind f = r := by subst h; exact h2
theorem Dh {R S T : Type} {o : Option (Ly R S)} {k : Ly R S → Option T} {s : S} {r : Option T} (h : o = some (.next s)) (h2 : k (.next s) = r) : o.bind k = r := by subst h; exact h2
theorem Hm {R S : Type} {body : S → Option (D2 R S)} (I : S → Prop) (Q : Ly R S → Prop) (m : S → Nat)
    (h : ∀ s, I s → (∃ s', body s = some (.cont s') ∧ I s' ∧ m s' < m s) ∨ (∃ s', body s = some (.brk s') ∧ Q (.next s')) ∨ ∃ r, body s = some (.ret r) ∧ Q (.ret r)) :
    ∀ (k : Nat) (s : S), I s → m s < k → ∃ c, Cr body k s = some c ∧ Q c
  | 0, s, _, hk => by omega
  | k + 1, s, hI, hk => by
    unfold Cr
    rcases h s hI with ⟨s', h1, h2, h3⟩ | ⟨s', h1, h2⟩ | ⟨r, h1, h2⟩
    · rw [h1]; exact Hm I Q m h k s' h2 (by omega)
    · rw [h1]; exact ⟨_, rfl, h2⟩
    · rw [h1]; exact ⟨_, rfl, h2⟩
theorem GZ {x : Int} (h : -9223372036854775808 ≤ x ∧ x ≤ 9223372036854775807) : IntKind.wrap .i64 x = x := by
  simp only [IntKind.wrap, IntKind.bits, IntKind.signed]
  simp
  omega
end

section
set_option linter.unusedVariables false
set_option linter.unusedSimpArgs false

theorem He (a i : Nat) (hi : i < 64) : shr .u64 (a : Int) (i : Int) = ((a / 2 ^ i : Nat) : Int) := by
  unfold shr
  have e : min ((i : Nat) : Int).toNat IntKind.u64.bits = i := by
    have : IntKind.u64.bits = 64 := rfl
    rw [this]; omega
  have e2 : ((2 : Int) ^ i) = ((2 ^ i : Nat) : Int) := by simp
  rw [e, e2, Int.fdiv_eq_ediv_of_nonneg _ (Int.natCast_nonneg _)]
  exact (Int.natCast_ediv a (2 ^ i)).symm
theorem LC (a : Nat) : shr .i64 (a : Int) 18 = ((a / 262144 : Nat) : Int) := by
  unfold shr
  have e : min (18 : Int).toNat IntKind.i64.bits = 18 := rfl
  have e2 : ((2 : Int) ^ 18) = ((262144 : Nat) : Int) := by simp
  rw [e, e2, Int.fdiv_eq_ediv_of_nonneg _ (Int.natCast_nonneg _)]
  exact (Int.natCast_ediv a 262144).symm
theorem Mr : ∀ (m : Fin 8) (n : Fin 256), bits_Len64.j3 (n.val : Int) ((8 * m.val : Nat) : Int) = some ((8 * m.val + Lib.bitLen n.val : Nat) : Int) := by decide +kernel
theorem LI (u : Nat) (h : u < 18446744073709551616) : bits_Len64 (u : Int) = some ((Lib.bitLen u : Nat) : Int) := by
  have k3 : ∀ (m n : Nat), m < 8 → n < 256 → bits_Len64.j3 (n : Int) ((8 * m : Nat) : Int) = some ((8 * m + Lib.bitLen n : Nat) : Int) := fun m n hm hn => Mr ⟨m, hm⟩ ⟨n, hn⟩
  have k2 : ∀ (m n : Nat), m < 7 → n < 65536 → bits_Len64.j2 (n : Int) ((8 * m : Nat) : Int) = some ((8 * m + Lib.bitLen n : Nat) : Int) := fun m n hm hn => by
    unfold bits_Len64.j2
    by_cases q : 256 ≤ n
    · have e := Lib.bitLen_shift8 n q (by omega)
      rw [if_pos (decide_eq_true (by omega)), show shr .u64 (n : Int) 8 = ((n / 2 ^ 8 : Nat) : Int) from He n 8 (by omega), GZ (by omega), show ((8 * m : Nat) : Int) + 8 = ((8 * (m + 1) : Nat) : Int) by omega]
      refine (k3 (m + 1) (n / 2 ^ 8) (by omega) (by omega)).trans ?_
      rw [e, show n / 2 ^ 8 = n / 256 from rfl]
      congr 1; omega
    · rw [if_neg (by rw [decide_eq_false (by omega)]; decide)]
      exact k3 m n (by omega) (by omega)
  have k1 : ∀ (m n : Nat), m < 5 → n < 4294967296 → bits_Len64.j1 (n : Int) ((8 * m : Nat) : Int) = some ((8 * m + Lib.bitLen n : Nat) : Int) := fun m n hm hn => by
    unfold bits_Len64.j1
    by_cases q : 65536 ≤ n
    · have e := Lib.bitLen_shift16 n q (by omega)
      rw [if_pos (decide_eq_true (by omega)), show shr .u64 (n : Int) 16 = ((n / 2 ^ 16 : Nat) : Int) from He n 16 (by omega), GZ (by omega), show ((8 * m : Nat) : Int) + 16 = ((8 * (m + 2) : Nat) : Int) by omega]
      refine (k2 (m + 2) (n / 2 ^ 16) (by omega) (by omega)).trans ?_
      rw [e, show n / 2 ^ 16 = n / 65536 from rfl]
      congr 1; omega
    · rw [if_neg (by rw [decide_eq_false (by omega)]; decide)]
      exact k2 m n (by omega) (by omega)
  unfold bits_Len64
  by_cases q : 4294967296 ≤ u
  · have e := Lib.bitLen_shift32 u q h
    rw [if_pos (decide_eq_true (by omega)), show shr .u64 (u : Int) 32 = ((u / 2 ^ 32 : Nat) : Int) from He u 32 (by omega)]
    refine (k1 4 (u / 2 ^ 32) (by omega) (by omega)).trans ?_
    rw [e, show u / 2 ^ 32 = u / 4294967296 from rfl]
  · rw [if_neg (by rw [decide_eq_false (by omega)]; decide)]
    refine (k1 0 u (by omega) (by omega)).trans ?_
    congr 1; omega
theorem K7 : ∀ n : Fin 20, JH.getD n.val 0 = ((10 ^ n.val : Nat) : Int) := by decide +kernel
theorem G8 (u : Nat) (h1 : 1 ≤ u) (h : u < 18446744073709551616) : Cz (u : Int) = some ((Lib.nDigits u : Nat) : Int) := by
  obtain ⟨e1, e2⟩ := Lib.numDigits_eq u h1 h
  have hb : Lib.bitLen u ≤ 64 := Lib.bitLen_le u 64 (Nat.le_refl _) h
  unfold Cz
  refine AM (LI u h) (AM (x := ((Lib.l10 (Lib.bitLen u) : Nat) : Int)) ?_ ?_)
  · unfold Dk Lib.l10
    rw [GZ (by omega), show ((Lib.bitLen u : Nat) : Int) * 78913 = ((Lib.bitLen u * 78913 : Nat) : Int) by omega, LC]
  · generalize Lib.l10 (Lib.bitLen u) = q at e1 e2
    have hp := K7 ⟨q, by omega⟩
    rw [if_pos (by omega), show ((q : Nat) : Int).toNat = q by omega, hp]
    unfold Dl
    by_cases w : 10 ^ q ≤ u
    · rw [if_pos w] at e1
      rw [if_pos (decide_eq_true (by exact_mod_cast w))]
      show some (IntKind.wrap .i64 ((q : Int) + 1)) = _
      rw [GZ (by omega), ← e1]
      rfl
    · rw [if_neg w] at e1
      rw [if_neg (by rw [decide_eq_false (by exact_mod_cast w)]; decide)]
      show some (IntKind.wrap .i64 ((q : Int) + 0)) = _
      rw [GZ (by omega), ← e1]
      rfl
end

section
set_option linter.unusedVariables false
set_option linter.unusedSimpArgs false

theorem Hu {n : Nat} (h : n < 10) : Lib.decDigits n = [UInt8.ofNat (48 + n)] := by rw [Lib.decDigits, dif_pos h]
theorem Kt {n : Nat} (h : ¬ n < 10) (h2 : n < 100) : Lib.decDigits n = [UInt8.ofNat (48 + n / 10), UInt8.ofNat (48 + n % 10)] := by
  rw [Lib.decDigits, dif_neg h, Hu (by omega)]; rfl
theorem IX : ∀ n : Fin 10, C1 (n.val : Int) = some [UInt8.ofNat (48 + n.val)] := by decide +kernel
theorem IW : ∀ n : Fin 100, 10 ≤ n.val → C1 (n.val : Int) = some [UInt8.ofNat (48 + n.val / 10), UInt8.ofNat (48 + n.val % 10)] := by decide +kernel
theorem HE {n : Nat} (h : n < 100) : C1 (n : Int) = some (Lib.decDigits n) := by
  by_cases q : n < 10
  · rw [Hu q]; exact IX ⟨n, q⟩
  · rw [Kt q h]; exact IW ⟨n, h⟩ (by show 10 ≤ n; omega)
theorem Le (u : Nat) (h : u < 18446744073709551616) : Cq (u : Int) 10 = some (Lib.decDigits u) := by
  unfold Cq
  rw [if_pos (by decide)]
  by_cases q : u < 100
  · rw [if_pos (decide_eq_true (by omega)), GZ (by omega)]
    exact AM (HE q) rfl
  · rw [if_neg (by rw [decide_eq_false (by omega)]; decide)]
    have hn := Lib.nDigits_le20 u h
    refine AM (G8 u (by omega) h) ?_
    have e : ((Lib.nDigits u : Nat) : Int).toNat = Lib.nDigits u := by omega
    have hr : (List.replicate 24 (0 : UInt8)).length = 24 := by simp
    rw [if_pos (by omega), e, show (0 : Int).toNat = 0 from rfl, show ((u : Nat) : Int).toNat = u by omega, if_pos (by simp only [List.length_replicate]; omega), if_pos (by omega), if_pos (by omega)]
    congr 1
    unfold GK
    rw [show ((u : Nat) : Int).toNat = u by omega, List.take_zero, List.nil_append, Nat.sub_zero, List.take_left' (Lib.decDigits_length u)]
theorem JI (u : Nat) (h : u < 18446744073709551616) : BT (u : Int) 10 = some (Lib.decDigits u) := AM (Le u h) rfl
theorem Ki (u : Nat) (h : u < 18446744073709551616) : BS (u : Int) = some (Lib.decDigits u) := AM (JI u h) rfl
theorem Kp (u : Nat) (h : u < 9223372036854775808) : DF (u : Int) = some (Lib.decDigits u) := by
  refine AM (x := Lib.decDigits u) (AM (x := Lib.decDigits u) ?_ rfl) rfl
  unfold Bp
  rw [if_pos (by decide), if_pos (decide_eq_true (by omega))]
  unfold Bp.j1
  by_cases q : u < 100
  · rw [decide_eq_true (show ((u : Nat) : Int) < 100 by omega), if_pos rfl]
    exact AM (HE q) rfl
  · rw [decide_eq_false (show ¬ ((u : Nat) : Int) < 100 by omega), if_neg (by decide), if_neg (by rw [decide_eq_false (by omega)]; decide)]
    have hw : IntKind.wrap .u64 (u : Int) = (u : Int) := by rw [IntKind.wrap_u64]; omega
    rw [hw]
    unfold Bp.j2
    have hn := Lib.nDigits_le20 u (by omega)
    refine AM (G8 u (by omega) (by omega)) ?_
    have hr : (List.replicate 24 (0 : UInt8)).length = 24 := by simp
    have e0 : IntKind.wrap .i64 (1 + ((Lib.nDigits u : Nat) : Int)) = ((1 + Lib.nDigits u : Nat) : Int) := by rw [GZ (by omega)]; omega
    have e : ((1 + Lib.nDigits u : Nat) : Int).toNat = 1 + Lib.nDigits u := by omega
    rw [e0, if_pos (by omega), e, show (1 : Int).toNat = 1 from rfl, show ((u : Nat) : Int).toNat = u by omega, if_pos (by simp only [List.length_replicate]; omega), if_neg (by rw [decide_eq_false (by omega)]; decide), if_pos (by unfold Cp; omega)]
    congr 1
    unfold GK
    rw [show ((u : Nat) : Int).toNat = u by omega]
    have hl := Lib.decDigits_length u
    have hA : ((List.replicate 24 (0 : UInt8)).take 1 ++ Lib.decDigits u).length = 1 + Lib.nDigits u := by rw [List.length_append, hl]; rfl
    rw [List.take_left' hA]
    rfl
end

section
set_option linter.unusedVariables false
set_option linter.unusedSimpArgs false

/- A digit of sixteen; the numeral. -/
def Ip (d : Nat) : UInt8 := if d < 10 then UInt8.ofNat (48 + d) else UInt8.ofNat (87 + d)
def Ef (u : Nat) : List UInt8 := if h : u < 16 then [Ip u] else Ef (u / 16) ++ [Ip (u % 16)]
termination_by u
decreasing_by omega
theorem Mm : De (IntKind.wrap .u64 16) = some 4 := by decide +kernel
theorem p16 : CW 16 = some true := by decide +kernel
theorem Iv {x : Int} (h : 0 ≤ x ∧ x < 18446744073709551616) : IntKind.wrap .u64 x = x := by rw [IntKind.wrap_u64]; omega
theorem L4 (x : Nat) (hx : x < 18446744073709551616) : bits .and .u64 (x : Int) 15 = ((x % 16 : Nat) : Int) := by
  have := bits_mask .u64 64 (by decide) (fun n h0 h1 => Iv ⟨h0, by omega⟩) 4 (by omega) (x : Int) (by omega) (by omega)
  simpa using this
theorem JG : ∀ n : Fin 16, Dz ((([48, 49, 50, 51, 52, 53, 54, 55, 56, 57, 97, 98, 99, 100, 101, 102, 103, 104, 105, 106, 107, 108, 109, 110, 111, 112, 113, 114, 115, 116, 117, 118, 119, 120, 121, 122] : List UInt8).getD n.val 0).toNat : Int) = Ip n.val := by decide +kernel
theorem drop_set (l : List UInt8) (i : Nat) (x : UInt8) (h : i < l.length) : (l.set i x).drop i = x :: l.drop (i + 1) := by
  rw [List.drop_set, if_neg (by omega), Nat.sub_self, List.drop_eq_getElem_cons h]
  rfl
theorem GJ {v : Nat} (h : ¬ v < 16) : Ef v = Ef (v / 16) ++ [Ip (v % 16)] := by rw [Ef, dif_neg h]
theorem FJ {v : Nat} (h : v < 16) : Ef v = [Ip v] := by rw [Ef, dif_pos h]
theorem Ln (u : Nat) (h : u < 18446744073709551616) : AE [] (u : Int) 16 false false = some ([], Ef u) := by
  unfold AE
  rw [if_neg (by decide), if_neg (by decide), decide_eq_false (show ¬ (36 : Int) < 16 by decide)]
  unfold AE.j1
  rw [if_neg (by decide), if_neg (by decide)]
  unfold AE.j2
  refine AM p16 ?_
  rw [if_pos rfl]
  refine AM Mm ?_
  have hw : IntKind.wrap .u64 16 = 16 := rfl
  obtain ⟨c, h1, h2⟩ := Hm (body := fun s : Int × Int × (List UInt8) => AE.b1 16 4 s.1 s.2.1 s.2.2)
    (fun s => ∃ (v n : Nat) (l : List UInt8), s = ((v : Int), (n : Int), l) ∧ l.length = 65 ∧ 49 < n ∧ n ≤ 65 ∧ v < 16 ^ (n - 49) ∧ v ≤ u ∧ Ef u = Ef v ++ l.drop n)
    (fun c => match c with | .next s => ∃ (v n : Nat) (l : List UInt8), s = ((v : Int), (n : Int), l) ∧ l.length = 65 ∧ 49 < n ∧ n ≤ 65 ∧ v < 16 ∧ Ef u = Ef v ++ l.drop n | .ret _ => False) (fun s => s.1.toNat / 16)
    (fun s ⟨v, n, l, hs, hl, n1, n2, hv, hvu, hx⟩ => by
      subst hs
      by_cases q : 16 ≤ v
      · have hn : 50 < n := by
          apply Classical.byContradiction
          intro w
          have : n - 49 = 1 := by omega
          rw [this] at hv
          omega
        have ed : Dz ((([48, 49, 50, 51, 52, 53, 54, 55, 56, 57, 97, 98, 99, 100, 101, 102, 103, 104, 105, 106, 107, 108, 109, 110, 111, 112, 113, 114, 115, 116, 117, 118, 119, 120, 121, 122] : List UInt8).getD ((v % 16 : Nat) : Int).toNat 0).toNat : Int) = Ip (v % 16) := JG ⟨v % 16, Nat.mod_lt _ (by omega)⟩
        refine .inl ⟨(((v / 16 : Nat) : Int), ((n - 1 : Nat) : Int), l.set (n - 1) (Ip (v % 16))), ?_, ⟨v / 16, n - 1, _, rfl, by simp [hl], by omega, by omega, ?_, by omega, ?_⟩, by show ((v / 16 : Nat) : Int).toNat / 16 < ((v : Nat) : Int).toNat / 16; omega⟩
        · show AE.b1 16 4 (v : Int) (n : Int) l = _
          unfold AE.b1
          rw [hw, if_pos (decide_eq_true (by omega)), show IntKind.wrap .u64 ((16 : Int) - 1) = 15 from rfl, L4 v (by omega), if_pos ⟨by omega, by show ((v % 16 : Nat) : Int) < 36; omega⟩, ed, GZ (x := (n : Int) - 1) (by omega), if_pos (by omega), show ((n : Int) - 1) = ((n - 1 : Nat) : Int) by omega, show ((n - 1 : Nat) : Int).toNat = n - 1 by omega, show IntKind.wrap .u64 4 = 4 from rfl, show shr .u64 (v : Int) 4 = ((v / 2 ^ 4 : Nat) : Int) from He v 4 (by omega)]
        · have e : n - 49 = (n - 1 - 49) + 1 := by omega
          rw [e, Nat.pow_succ] at hv
          exact Nat.div_lt_of_lt_mul (by rw [Nat.mul_comm]; exact hv)
        · rw [hx, GJ (by omega), drop_set l (n - 1) _ (by omega), show n - 1 + 1 = n by omega, List.append_assoc]
          rfl
      · refine .inr (.inl ⟨((v : Int), (n : Int), l), ?_, v, n, l, rfl, hl, n1, n2, by omega, hx⟩)
        show AE.b1 16 4 (v : Int) (n : Int) l = _
        unfold AE.b1
        rw [hw, if_neg (by rw [decide_eq_false (by omega)]; decide)]) (((u : Int) - (IntKind.wrap .u64 16) : Int).toNat + 2) ((u : Int), 65, List.replicate 65 0) ⟨u, 65, _, rfl, by simp, by omega, by omega, by simpa using h, Nat.le_refl _, by simp⟩ (by rw [hw]; show ((u : Nat) : Int).toNat / 16 < ((u : Int) - 16).toNat + 2; omega)
  cases c with
  | ret _ => exact h2.elim
  | next s =>
    obtain ⟨v, n, l, hs, hl, n1, n2, hv, hx⟩ := h2
    subst hs
    refine Dh h1 ?_
    have ed : Dz ((([48, 49, 50, 51, 52, 53, 54, 55, 56, 57, 97, 98, 99, 100, 101, 102, 103, 104, 105, 106, 107, 108, 109, 110, 111, 112, 113, 114, 115, 116, 117, 118, 119, 120, 121, 122] : List UInt8).getD ((v : Nat) : Int).toNat 0).toNat : Int) = Ip v := JG ⟨v, hv⟩
    show (if _ then (if _ then _ else _) else _) = _
    rw [if_pos ⟨by omega, by show (v : Int) < 36; omega⟩, GZ (by omega), if_pos (by omega), ed, show ((n : Int) - 1) = ((n - 1 : Nat) : Int) by omega, show ((n - 1 : Nat) : Int).toNat = n - 1 by omega]
    unfold AE.j3
    rw [if_neg (by decide)]
    unfold AE.j4
    rw [if_neg (by decide), if_pos ⟨by omega, by omega, by decide, by decide⟩, show ((n - 1 : Nat) : Int).toNat = n - 1 by omega, show (65 : Int).toNat = 65 from rfl, List.take_of_length_le (by simp [hl]), drop_set l (n - 1) _ (by omega), show n - 1 + 1 = n by omega, hx, FJ hv]
    rfl
theorem KJ (u : Nat) (h : u < 18446744073709551616) : BT (u : Int) 16 = some (Ef u) := by
  refine AM (x := Ef u) ?_ rfl
  unfold Cq
  rw [if_neg (by decide)]
  exact AM (Ln u h) rfl
end

section
set_option linter.unusedVariables false
set_option linter.unusedSimpArgs false

/- The number of the rune that a text begins with; the numbers of all; a number's text; a quoted text. -/
def Kc (l : List UInt8) : Nat := if (Lib.decodeL l).1 = 65533 ∧ (Lib.decodeL l).2 = 1 then (l.getD 0 0).toNat + 2000000 else (Lib.decodeL l).1
def Fa (l : List UInt8) : List Nat := if h : l = [] then [] else Kc l :: Fa (l.drop (Lib.decodeL l).2)
termination_by l.length
decreasing_by
  have h1 := Lib.decodeL_width l
  have h2 : 0 < l.length := List.length_pos_iff.2 h
  rw [List.length_drop]
  omega
def FQ (n : Nat) : List UInt8 :=
  if n = 34 ∨ n = 92 then [92, UInt8.ofNat n] else if 32 ≤ n ∧ n ≤ 126 then [UInt8.ofNat n] else if 2000000 ≤ n then [92, 120] ++ Ef (n - 2000000) ++ [59] else [92, 117] ++ Ef n ++ [59]
def Jq (l : List UInt8) : List UInt8 := [34] ++ (Fa l).flatMap FQ ++ [34]
theorem HL : Fa [] = [] := by rw [Fa, dif_pos rfl]
theorem G3 {l : List UInt8} (h : l ≠ []) : Fa l = Kc l :: Fa (l.drop (Lib.decodeL l).2) := by rw [Fa, dif_neg h]
/- Plain bytes. -/
abbrev Fv (b : UInt8) : Prop := 32 ≤ b.toNat ∧ b.toNat ≤ 126
theorem Hq : ∀ n : Fin 16, 32 ≤ (Ip n.val).toNat ∧ (Ip n.val).toNat ≤ 126 := by decide +kernel
theorem Hr : ∀ (k n : Nat), n < k → ∀ b ∈ Ef n, Fv b
  | 0, n, h => by omega
  | k + 1, n, h => by
    by_cases q : n < 16
    · rw [FJ q]
      intro b hb
      rw [List.mem_singleton.1 hb]
      exact Hq ⟨n, q⟩
    · rw [GJ q]
      intro b hb
      rcases List.mem_append.1 hb with hb | hb
      · exact Hr k (n / 16) (by omega) b hb
      · rw [List.mem_singleton.1 hb]
        exact Hq ⟨n % 16, Nat.mod_lt _ (by omega)⟩
theorem E4 : ∀ (k n : Nat), n < 16 ^ (k + 1) → (Ef n).length ≤ k + 1
  | 0, n, h => by rw [FJ (by simpa using h)]; exact Nat.le_refl _
  | k + 1, n, h => by
    by_cases q : n < 16
    · rw [FJ q]; show 1 ≤ k + 1 + 1; omega
    · rw [GJ q, List.length_append]
      have := E4 k (n / 16) (Nat.div_lt_of_lt_mul (by rw [Nat.mul_comm, ← Nat.pow_succ]; exact h))
      show (Ef (n / 16)).length + 1 ≤ k + 1 + 1
      omega
theorem Hj {n : Nat} (h : 32 ≤ n ∧ n ≤ 126) : Fv (UInt8.ofNat n) := by
  show 32 ≤ (UInt8.ofNat n).toNat ∧ (UInt8.ofNat n).toNat ≤ 126
  rw [UInt8.toNat_ofNat']
  omega
theorem Lh (n : Nat) : ∀ b ∈ FQ n, Fv b := by
  have h92 : Fv 92 := by decide
  have h59 : Fv 59 := by decide
  have h117 : Fv 117 := by decide
  have h120 : Fv 120 := by decide
  have three : ∀ (x : UInt8) (l : List UInt8), Fv x → (∀ b ∈ l, Fv b) → ∀ b ∈ [92, x] ++ l ++ [59], Fv b := by
    intro x l hx hl b hb
    rcases List.mem_append.1 hb with hb | hb
    · rcases List.mem_append.1 hb with hb | hb
      · rcases List.mem_cons.1 hb with rfl | hb
        · exact h92
        · rw [List.mem_singleton.1 hb]; exact hx
      · exact hl b hb
    · rw [List.mem_singleton.1 hb]; exact h59
  unfold FQ
  by_cases q : n = 34 ∨ n = 92
  · rw [if_pos q]
    intro b hb
    rcases List.mem_cons.1 hb with rfl | hb
    · exact h92
    · rw [List.mem_singleton.1 hb]; exact Hj (by omega)
  · rw [if_neg q]
    by_cases q2 : 32 ≤ n ∧ n ≤ 126
    · rw [if_pos q2]
      intro b hb
      rw [List.mem_singleton.1 hb]
      exact Hj q2
    · rw [if_neg q2]
      by_cases q3 : 2000000 ≤ n
      · rw [if_pos q3]; exact three 120 _ h120 (Hr _ _ (Nat.lt_succ_self _))
      · rw [if_neg q3]; exact three 117 _ h117 (Hr _ _ (Nat.lt_succ_self _))
theorem Jp (l : List UInt8) : ∀ b ∈ Jq l, Fv b := by
  have h34 : Fv 34 := by decide
  intro b hb
  rcases List.mem_append.1 hb with hb | hb
  · rcases List.mem_append.1 hb with hb | hb
    · rw [List.mem_singleton.1 hb]; exact h34
    · obtain ⟨n, _, hn⟩ := List.mem_flatMap.1 hb
      exact Lh n b hn
  · rw [List.mem_singleton.1 hb]; exact h34
theorem K3 (l : List UInt8) : Kc l < 2000256 := by
  unfold Kc
  have h1 := Lib.decodeL_rune l
  have h2 := (l.getD 0 0).toNat_lt
  split <;> omega
theorem Ks (n : Nat) (h : n < 2000256) : (FQ n).length ≤ 9 := by
  unfold FQ
  split
  · show 2 ≤ 9; omega
  · split
    · show 1 ≤ 9; omega
    · split
      · have := E4 5 (n - 2000000) (by omega)
        simp only [List.length_append, List.length_cons, List.length_nil]; omega
      · have := E4 5 n (by omega)
        simp only [List.length_append, List.length_cons, List.length_nil]; omega
theorem FF : ∀ (k : Nat) (l : List UInt8), l.length ≤ k → ((Fa l).flatMap FQ).length ≤ 9 * l.length
  | k, [], _ => by rw [HL]; exact Nat.zero_le _
  | 0, a :: t, h => by simp at h
  | k + 1, a :: t, h => by
    have hne : a :: t ≠ [] := List.cons_ne_nil _ _
    have h1 := Lib.decodeL_width (a :: t)
    have h2 := Ks _ (K3 (a :: t))
    rw [G3 hne, List.flatMap_cons, List.length_append]
    have h3 := FF k ((a :: t).drop (Lib.decodeL (a :: t)).2) (by rw [List.length_drop]; omega)
    rw [List.length_drop] at h3
    have h4 : 0 < (a :: t).length := by simp
    omega
theorem Gl (l : List UInt8) : (Jq l).length ≤ 9 * l.length + 2 := by
  have := FF _ l (Nat.le_refl _)
  unfold Jq
  simp only [List.length_append, List.length_cons, List.length_nil]
  omega

/- The program's writers. -/
theorem HA (b : List UInt8) (n : Nat) (h : b.length < 140737488355328) : Bt ⟨b⟩ (n : Int) = some (Value.nilIface, ⟨b ++ [UInt8.ofNat n]⟩) := by
  unfold Bt
  rw [if_pos ⟨by show b.length + 1 ≤ Cp; unfold Cp; omega, by show (b.length + 1) * 1 ≤ _; omega⟩]
  rfl
theorem KA (b a : List UInt8) (h : b.length + a.length ≤ 140737488355328) : BG ⟨b⟩ a = some ((a.length : Int), Value.nilIface, ⟨b ++ a⟩) := by
  unfold BG
  rw [if_pos ⟨by show b.length + a.length ≤ Cp; unfold Cp; omega, by show (b.length + a.length) * 1 ≤ _; omega⟩]
theorem KB (b : List UInt8) (n : Nat) (hn : n ≤ 126) (h : b.length < 140737488355328) : ∃ x, B2 ⟨b⟩ (n : Int) = some (x, Value.nilIface, ⟨b ++ [UInt8.ofNat n]⟩) := by
  have e1 : IntKind.wrap .u32 (n : Int) = (n : Int) := by rw [IntKind.wrap_u32]; omega
  have e2 : IntKind.wrap .u8 (n : Int) = (n : Int) := by rw [IntKind.wrap_u8]; omega
  refine ⟨_, AM (x := b ++ [UInt8.ofNat n]) ?_ rfl⟩
  unfold DE
  rw [e1, e2, if_pos (decide_eq_true (by omega)), if_pos ⟨by show b.length + 1 ≤ Cp; unfold Cp; omega, by show (b.length + 1) * 1 ≤ _; omega⟩]
  rfl
theorem KE (s : List UInt8) (p : Nat) : Ej s p = ((Lib.decodeL (s.drop p)).1 : Int) := by
  unfold Ej
  rw [show Lib.decodeL (s.drop p) = Utf8.decode ⟨s.toArray⟩ p from Lib.decodeL_drop ⟨s.toArray⟩ p]
theorem KD (s : List UInt8) (p : Nat) (h : p < s.length) : Eh s p = p + (Lib.decodeL (s.drop p)).2 := by
  unfold Eh
  rw [if_pos h, show Lib.decodeL (s.drop p) = Utf8.decode ⟨s.toArray⟩ p from Lib.decodeL_drop ⟨s.toArray⟩ p]
theorem LQ (l : List UInt8) (h : l ≠ []) : Lu l = ((Lib.decodeL l).2 : Int) := by
  unfold Lu Lib.decodeGo
  rw [if_neg (by
    have := List.length_pos_iff.2 h
    show ¬ l.toArray.size = 0
    simp only [List.size_toArray]
    omega)]
  rfl
theorem I9 (s : List UInt8) (p : Nat) (h : p < s.length) : D7 s (p : Int) (Ej s p) = some (decide ((Lib.decodeL (s.drop p)).1 = 65533 ∧ (Lib.decodeL (s.drop p)).2 = 1)) := by
  have hne : s.drop p ≠ [] := by
    intro h0
    have := congrArg List.length h0
    rw [List.length_drop] at this
    simp at this
    omega
  unfold D7
  rw [KE]
  by_cases q : (Lib.decodeL (s.drop p)).1 = 65533
  · rw [if_neg (by rw [decide_eq_true (by omega)]; decide), if_pos (by omega), show ((s.length : Nat) : Int).toNat = s.length by omega, show ((p : Nat) : Int).toNat = p by omega, List.take_length, LQ _ hne]
    congr 1
    by_cases w : (Lib.decodeL (s.drop p)).2 = 1
    · rw [decide_eq_true (by omega), decide_eq_true ⟨q, w⟩]
    · rw [decide_eq_false (by omega), decide_eq_false (fun z => w z.2)]
  · rw [if_pos (by rw [decide_eq_false (by omega)]; decide), decide_eq_false (fun z => q z.1)]
theorem K6 (s b : List UInt8) (p : Nat) (hp : p < s.length) (hb : b.length + (FQ (Kc (s.drop p))).length ≤ 140737488355328) : A8.b1 s ⟨b⟩ p = some (.cont (⟨b ++ FQ (Kc (s.drop p))⟩, Eh s p)) := by
  have hr := Lib.decodeL_rune (s.drop p)
  have hbr := I9 s p hp
  have hn := KE s p
  have h0 : (s.getD p 0).toNat < 256 := (s.getD p 0).toNat_lt
  have hd : (s.drop p).getD 0 0 = s.getD p 0 := by simp [List.getD, List.getElem?_drop]
  have hR : Kc (s.drop p) = if (Lib.decodeL (s.drop p)).1 = 65533 ∧ (Lib.decodeL (s.drop p)).2 = 1 then (s.getD p 0).toNat + 2000000 else (Lib.decodeL (s.drop p)).1 := by rw [← hd]; rfl
  generalize Kc (s.drop p) = R at hb hR ⊢
  generalize (Lib.decodeL (s.drop p)).1 = r at hr hbr hR hn
  generalize (Lib.decodeL (s.drop p)).2 = w at hbr hR
  have quoted : (r = 34 ∨ r = 92) → A8.j1 s ⟨b⟩ p true = some (.cont (⟨b ++ FQ R⟩, Eh s p)) := by
    intro e2
    rw [if_neg (by omega)] at hR
    have e3 : FQ R = [92, UInt8.ofNat r] := by unfold FQ; rw [if_pos (by omega), hR]
    rw [e3] at hb ⊢
    have hb : b.length + 2 ≤ 140737488355328 := hb
    obtain ⟨x, hx⟩ := KB (b ++ [92]) r (by omega) (by rw [List.length_append]; show b.length + 1 < _; omega)
    unfold A8.j1
    rw [if_pos rfl, hn]
    refine AM (HA b 92 (by omega)) (AM hx ?_)
    rw [List.append_assoc]
    rfl
  have plainly : 32 ≤ r ∧ r ≤ 126 → ¬ (r = 34 ∨ r = 92) → A8.j3 s ⟨b⟩ p true = some (.cont (⟨b ++ FQ R⟩, Eh s p)) := by
    intro e1 e2
    rw [if_neg (by omega)] at hR
    have e3 : FQ R = [UInt8.ofNat r] := by unfold FQ; rw [if_neg (by omega), if_pos (by omega), hR]
    rw [e3] at hb ⊢
    have hb : b.length + 1 ≤ 140737488355328 := hb
    obtain ⟨x, hx⟩ := KB b r (by omega) (by omega)
    unfold A8.j3
    rw [if_pos rfl, hn]
    exact AM hx rfl
  have told : ¬ (32 ≤ r ∧ r ≤ 126) → A8.j3 s ⟨b⟩ p false = some (.cont (⟨b ++ FQ R⟩, Eh s p)) := by
    intro e1
    unfold A8.j3
    rw [if_neg (by decide)]
    refine AM hbr ?_
    by_cases q : r = 65533 ∧ w = 1
    · rw [if_pos q] at hR
      have e3 : FQ R = [92, 120] ++ Ef (s.getD p 0).toNat ++ [59] := by unfold FQ; rw [if_neg (by omega), if_neg (by omega), if_pos (by omega), hR, Nat.add_sub_cancel]
      rw [e3] at hb ⊢
      have hl := E4 1 (s.getD p 0).toNat (by omega)
      have ew : IntKind.wrap .u64 (((s.getD p 0).toNat : Nat) : Int) = (((s.getD p 0).toNat : Nat) : Int) := Iv (by omega)
      rw [decide_eq_true q, if_pos rfl, if_pos (by omega), show ((p : Nat) : Int).toNat = p by omega, ew]
      refine AM (KJ _ (by omega)) ?_
      rw [if_pos (by show 2 + (Ef (s.getD p 0).toNat).length ≤ Cp; unfold Cp; omega), if_pos (by rw [List.length_append]; show 2 + (Ef (s.getD p 0).toNat).length + 1 ≤ Cp; unfold Cp; omega)]
      exact AM (KA b _ hb) rfl
    · rw [if_neg q] at hR
      have e3 : FQ R = [92, 117] ++ Ef r ++ [59] := by unfold FQ; rw [if_neg (by omega), if_neg (by omega), if_neg (by omega), hR]
      rw [e3] at hb ⊢
      have hl := E4 5 r (by omega)
      have ew : IntKind.wrap .u64 (r : Int) = (r : Int) := Iv (by omega)
      rw [decide_eq_false q, if_neg (by decide), hn, ew]
      refine AM (KJ _ (by omega)) ?_
      rw [if_pos (by show 2 + (Ef r).length ≤ Cp; unfold Cp; omega), if_pos (by rw [List.length_append]; show 2 + (Ef r).length + 1 ≤ Cp; unfold Cp; omega)]
      exact AM (KA b _ hb) rfl
  unfold A8.b1
  rw [if_pos (decide_eq_true hp), if_pos hp, hn]
  by_cases q1 : r = 34
  · rw [if_pos (decide_eq_true (by omega))]; exact quoted (.inl q1)
  · rw [if_neg (by rw [decide_eq_false (by omega)]; decide)]
    by_cases q2 : r = 92
    · rw [decide_eq_true (by omega)]; exact quoted (.inr q2)
    · rw [decide_eq_false (by omega)]
      unfold A8.j1
      rw [if_neg (by decide), hn]
      by_cases q3 : 32 ≤ r
      · rw [if_pos (decide_eq_true (by omega))]
        by_cases q4 : r ≤ 126
        · rw [decide_eq_true (by omega)]; exact plainly ⟨q3, q4⟩ (by omega)
        · rw [decide_eq_false (by omega)]; exact told (by omega)
      · rw [if_neg (by rw [decide_eq_false (by omega)]; decide)]; exact told (by omega)
theorem EZ (s : List UInt8) (h : s.length ≤ 100000) : A8 s = some (Jq s) := by
  have hl := Gl s
  unfold A8
  refine AM (HA [] 34 (by simp)) ?_
  obtain ⟨c, h1, h2⟩ := Hm (body := fun s' : Co × Nat => A8.b1 s s'.1 s'.2)
    (fun s' => s'.1.BN ++ (Fa (s.drop s'.2)).flatMap FQ = [34] ++ (Fa s).flatMap FQ)
    (fun c => match c with | .next s' => s'.1.BN = [34] ++ (Fa s).flatMap FQ | .ret _ => False) (fun s' => s.length - s'.2)
    (fun s' hi => by
      obtain ⟨⟨b⟩, p⟩ := s'
      have hi : b ++ (Fa (s.drop p)).flatMap FQ = [34] ++ (Fa s).flatMap FQ := hi
      by_cases hp : p < s.length
      · have hne : s.drop p ≠ [] := by
          intro h0
          have := congrArg List.length h0
          rw [List.length_drop] at this
          simp at this
          omega
        rw [G3 hne, List.flatMap_cons] at hi
        have hlen := congrArg List.length hi
        have hnl := FF _ s (Nat.le_refl _)
        simp only [List.length_append, List.length_cons, List.length_nil] at hlen
        have hw := Lib.decodeL_width (s.drop p)
        refine .inl ⟨_, K6 s b p hp (by omega), ?_, by show s.length - Eh s p < s.length - p; rw [KD s p hp]; omega⟩
        show (b ++ FQ (Kc (s.drop p))) ++ (Fa (s.drop (Eh s p))).flatMap FQ = _
        rw [KD s p hp, List.append_assoc, ← hi, List.drop_drop]
      · refine .inr (.inl ⟨(⟨b⟩, Eh s p), ?_, ?_⟩)
        · show A8.b1 s ⟨b⟩ p = _
          unfold A8.b1
          rw [if_neg (by rw [decide_eq_false hp]; decide)]
        · rw [List.drop_eq_nil_of_le (by omega), HL] at hi
          show b = _
          rw [← hi]
          simp) (s.length + 2) (⟨[34]⟩, 0) (by show [34] ++ (Fa (s.drop 0)).flatMap FQ = _; rfl) (by show s.length - 0 < s.length + 2; omega)
  cases c with
  | ret _ => exact h2.elim
  | next s' =>
    obtain ⟨⟨b⟩, p⟩ := s'
    have h2 : b = [34] ++ (Fa s).flatMap FQ := h2
    subst h2
    refine Dh h1 ?_
    have hnl := FF _ s (Nat.le_refl _)
    refine AM (HA _ 34 (by simp only [List.length_append, List.length_cons, List.length_nil]; omega)) (AM (x := Jq s) ?_ rfl)
    unfold BZ
    rw [if_pos (by simp)]
    rfl
end

section
set_option linter.unusedVariables false
set_option linter.unusedSimpArgs false

/- A loop that goes on from state to state. -/
theorem Hf {R S : Type} {body : S → Option (D2 R S)} (st : Nat → S) (n : Nat) (h : ∀ i, i < n → body (st i) = some (.cont (st (i + 1)))) (z : S) (e : body (st n) = some (.brk z)) :
    ∀ (m i k : Nat), i + m = n → m < k → Cr body k (st i) = some (.next z)
  | _, _, 0, _, hk => by omega
  | 0, i, k + 1, hi, hk => by
    have : i = n := by omega
    subst this
    unfold Cr
    rw [e]
  | m + 1, i, k + 1, hi, hk => by
    unfold Cr
    rw [h i (by omega)]
    exact Hf st n h z e m (i + 1) k (by omega) (by omega)
/- A loop that looks at each place, and may end at one. -/
theorem E8 {R : Type} {body : Int → Option (D2 R Int)} (n : Nat) (p : Nat → Bool) (r : R) (h : ∀ i, i < n → body (i : Int) = if p i = true then some (.ret r) else some (.cont ((i + 1 : Nat) : Int))) (e : body (n : Int) = some (.brk (n : Int))) :
    ∀ (m i k : Nat), i + m = n → m < k → (∃ j, j < n ∧ p j = true ∧ Cr body k (i : Int) = some (.ret r)) ∨ ((∀ j, i ≤ j → j < n → p j = false) ∧ Cr body k (i : Int) = some (.next (n : Int)))
  | _, _, 0, _, hk => by omega
  | 0, i, k + 1, hi, hk => by
    have : i = n := by omega
    subst this
    refine .inr ⟨fun j h1 h2 => by omega, ?_⟩
    unfold Cr
    rw [e]
  | m + 1, i, k + 1, hi, hk => by
    by_cases q : p i = true
    · refine .inl ⟨i, by omega, q, ?_⟩
      unfold Cr
      rw [h i (by omega), if_pos q]
    · have hb := h i (by omega)
      rw [if_neg q] at hb
      rcases E8 n p r h e m (i + 1) k (by omega) (by omega) with ⟨j, h1, h2, h3⟩ | ⟨h1, h2⟩
      · refine .inl ⟨j, h1, h2, ?_⟩
        unfold Cr
        rw [hb]
        exact h3
      · refine .inr ⟨fun j g1 g2 => ?_, ?_⟩
        · by_cases w : j = i
          · rw [w]; simpa using q
          · exact h1 j (by omega) g2
        · unfold Cr
          rw [hb]
          exact h2
theorem Ix {α β : Type} [Inhabited α] (l : List α) (f : α → List β) (i : Nat) (h : i < l.length) : (l.take (i + 1)).flatMap f = (l.take i).flatMap f ++ f (l.getD i default) := by
  have e : l.getD i default = l[i] := by simp [List.getD, h]
  rw [List.take_add_one, List.getElem?_eq_getElem h, List.flatMap_append, e]
  simp
theorem JJ {α β : Type} {l : List α} {f : α → List β} {K : Nat} (h : ∀ x ∈ l, (f x).length ≤ K) : (l.flatMap f).length ≤ K * l.length := by
  induction l with
  | nil => simp
  | cons a t ih =>
    rw [List.flatMap_cons, List.length_append, List.length_cons, Nat.mul_succ]
    have := h a List.mem_cons_self
    have := ih fun x hx => h x (List.mem_cons_of_mem _ hx)
    omega
theorem Jh {α β : Type} {l : List α} {f : α → List β} {K : Nat} (h : ∀ x ∈ l, (f x).length ≤ K) (i : Nat) : ((l.take i).flatMap f).length ≤ K * l.length := by
  have h1 := JJ (l := l.take i) (f := f) (K := K) (fun x hx => h x (List.mem_of_mem_take hx))
  have h2 : (l.take i).length ≤ l.length := by rw [List.length_take]; omega
  exact Nat.le_trans h1 (Nat.mul_le_mul_left K h2)
theorem get_mem {α : Type} [Inhabited α] {l : List α} {i : Nat} (h : i < l.length) : l.getD i default ∈ l := by
  have e : l.getD i default = l[i] := by simp [List.getD, h]
  rw [e]; exact List.getElem_mem h

/- A number's text. -/
def tx (x : Int) : List UInt8 := Lib.decDigits x.toNat
theorem FI {x : Int} (h : CH .u64 x) : 0 ≤ x ∧ x < 18446744073709551616 := by
  simp only [CH, IntKind.min, IntKind.max, IntKind.bits, IntKind.signed] at h
  simp at h
  omega
theorem JF {x : Int} (h : CH .u32 x) : 0 ≤ x ∧ x < 4294967296 := by
  simp only [CH, IntKind.min, IntKind.max, IntKind.bits, IntKind.signed] at h
  simp at h
  omega
theorem EN {x : Int} (h : 0 ≤ x ∧ x < 18446744073709551616) : BS x = some (tx x) := by
  have e := Ki x.toNat (by omega)
  rwa [show ((x.toNat : Nat) : Int) = x by omega] at e
theorem or_eq {x : Int} (h : 0 ≤ x ∧ x < 18446744073709551616) : CJ x = some (tx x) := by
  unfold CJ
  rw [Iv h]
  exact AM (EN h) rfl
theorem HW (n : Nat) (h : n < 9223372036854775808) : CY (n : Int) = some (tx (n : Int)) := AM (Kp n h) (by unfold tx; rw [show ((n : Nat) : Int).toNat = n by omega])
theorem H8 {x : Int} (h : x < 18446744073709551616) : (tx x).length ≤ 20 := by
  unfold tx
  rw [Lib.decDigits_length]
  exact Lib.nDigits_le20 _ (by omega)
theorem JT : ∀ (k n : Nat), n < k → ∀ b ∈ Lib.decDigits n, Fv b
  | 0, n, h => by omega
  | k + 1, n, h => by
    by_cases q : n < 10
    · rw [Hu q]
      intro b hb
      rw [List.mem_singleton.1 hb]
      exact Hj (by omega)
    · have e : Lib.decDigits n = Lib.decDigits (n / 10) ++ [UInt8.ofNat (48 + n % 10)] := by rw [Lib.decDigits, dif_neg q]
      rw [e]
      intro b hb
      rcases List.mem_append.1 hb with hb | hb
      · exact JT k (n / 10) (by omega) b hb
      · rw [List.mem_singleton.1 hb]
        exact Hj (by omega)
theorem KC (x : Int) : ∀ b ∈ tx x, Fv b := JT _ _ (Nat.lt_succ_self _)

/- A digest's text. -/
def Lc (b : UInt8) : List UInt8 := [Ip (b.toNat / 16), Ip (b.toNat % 16)]
def KZ (d : List UInt8) : List UInt8 := d.flatMap Lc
def K2 (d : List UInt8) : List UInt8 := (KZ d).take 8
theorem HS : ∀ n : Fin 16, UInt8.ofNat (([48, 49, 50, 51, 52, 53, 54, 55, 56, 57, 97, 98, 99, 100, 101, 102] : List UInt8).getD n.val 0).toNat = Ip n.val := by decide +kernel
theorem KX (a : Nat) : shr .u8 (a : Int) 4 = ((a / 16 : Nat) : Int) := by
  unfold shr
  have e : min (4 : Int).toNat IntKind.u8.bits = 4 := rfl
  have e2 : ((2 : Int) ^ 4) = ((16 : Nat) : Int) := by simp
  rw [e, e2, Int.fdiv_eq_ediv_of_nonneg _ (Int.natCast_nonneg _)]
  exact (Int.natCast_ediv a 16).symm
theorem Lp (x : Nat) (hx : x < 256) : bits .and .u8 (x : Int) 15 = ((x % 16 : Nat) : Int) := by
  have := bits_mask .u8 8 (by decide) (fun n h0 h1 => by rw [IntKind.wrap_u8]; omega) 4 (by omega) (x : Int) (by omega) (by omega)
  simpa using this
theorem Iz (d : List UInt8) : (KZ d).length = 2 * d.length := by
  unfold KZ
  induction d with
  | nil => rfl
  | cons a t ih => rw [List.flatMap_cons, List.length_append, ih, List.length_cons]; show 2 + _ = _; omega
theorem Lb (a : UInt8) : ∀ b ∈ Lc a, Fv b := by
  intro b hb
  have := a.toNat_lt
  rcases List.mem_cons.1 hb with rfl | hb
  · exact Hq ⟨a.toNat / 16, by omega⟩
  · rw [List.mem_singleton.1 hb]; exact Hq ⟨a.toNat % 16, Nat.mod_lt _ (by omega)⟩
theorem K1 (d : List UInt8) : ∀ b ∈ K2 d, Fv b := by
  intro b hb
  obtain ⟨a, _, ha⟩ := List.mem_flatMap.1 (List.mem_of_mem_take hb)
  exact Lb a b ha
theorem Kb (d : List UInt8) : (K2 d).length ≤ 8 := by unfold K2; rw [List.length_take]; omega
theorem Jk (d b : List UInt8) (i : Nat) (hi : i < 32) (hb : b.length + 2 ≤ 140737488355328) : CX.b1 d (i : Int) ⟨b⟩ = some (.cont (((i + 1 : Nat) : Int), ⟨b ++ Lc (d.getD i 0)⟩)) := by
  unfold CX.b1
  have ha := (d.getD i 0).toNat_lt
  rw [if_pos (decide_eq_true (by omega)), if_pos (by omega), show ((i : Nat) : Int).toNat = i by omega]
  have h1 : UInt8.ofNat (([48, 49, 50, 51, 52, 53, 54, 55, 56, 57, 97, 98, 99, 100, 101, 102] : List UInt8).getD ((d.getD i 0).toNat / 16) 0).toNat = Ip ((d.getD i 0).toNat / 16) := HS ⟨(d.getD i 0).toNat / 16, by omega⟩
  have h2 : UInt8.ofNat (([48, 49, 50, 51, 52, 53, 54, 55, 56, 57, 97, 98, 99, 100, 101, 102] : List UInt8).getD ((d.getD i 0).toNat % 16) 0).toNat = Ip ((d.getD i 0).toNat % 16) := HS ⟨(d.getD i 0).toNat % 16, Nat.mod_lt _ (by omega)⟩
  rw [KX, Lp _ ha, show (((d.getD i 0).toNat / 16 : Nat) : Int).toNat = (d.getD i 0).toNat / 16 by omega, show (((d.getD i 0).toNat % 16 : Nat) : Int).toNat = (d.getD i 0).toNat % 16 by omega,
    if_pos ⟨by omega, by show (((d.getD i 0).toNat / 16 : Nat) : Int) < 16; omega⟩]
  refine AM (HA b _ (by omega)) ?_
  rw [if_pos ⟨by omega, by show (((d.getD i 0).toNat % 16 : Nat) : Int) < 16; omega⟩]
  refine AM (HA _ _ (by rw [List.length_append]; show b.length + 1 < _; omega)) ?_
  rw [h1, h2, GZ (by omega), List.append_assoc]
  rfl
theorem Ji (d : List UInt8) (hd : d.length = 32) : CX d = some (KZ d) := by
  have hl : ∀ i, i < 32 → ((d.take i).flatMap Lc).length ≤ 2 * d.length := fun i _ => Jh (fun x _ => Nat.le_refl 2) i
  have h := Hf (body := fun s : Int × Co => CX.b1 d s.1 s.2) (fun i => ((i : Int), (⟨(d.take i).flatMap Lc⟩ : Co))) 32 (fun i hi => by
    have := hl i hi
    show CX.b1 d (i : Int) ⟨_⟩ = some (.cont (((i + 1 : Nat) : Int), ⟨_⟩))
    rw [Jk d _ i hi (by omega), Ix d Lc i (by omega)]
    rfl) (32, ⟨KZ d⟩) (by
    show CX.b1 d 32 ⟨(d.take 32).flatMap Lc⟩ = _
    unfold CX.b1
    rw [if_neg (by decide), List.take_of_length_le (by omega)]
    rfl) 32 0 ((32 - 0 : Int).toNat + 2) (by omega) (by decide)
  refine Dh h (AM (x := KZ d) ?_ rfl)
  unfold BZ
  rw [if_pos (by
    intro h0
    have := Iz d
    rw [show KZ d = [] from h0] at this
    simp at this
    omega)]
theorem IB (d : List UInt8) (hd : d.length = 32) : D5 d = some (K2 d) := by
  refine AM (Ji d hd) ?_
  rw [if_pos (by rw [Iz]; omega)]
  rfl

/- A line; how the program says it. -/
def sy (ps : List (List UInt8)) : List UInt8 := Lib.join ps [32] ++ [10]
theorem La {ps : List (List UInt8)} {m : Nat} (h : ∀ p ∈ ps, p.length ≤ m) : (Lib.joinTail [32] ps).length ≤ ps.length * (m + 1) := by
  induction ps with
  | nil => simp [Lib.joinTail]
  | cons a t ih =>
    have h1 := ih fun p hp => h p (List.mem_cons_of_mem _ hp)
    have h2 := h a List.mem_cons_self
    have e : Lib.joinTail [32] (a :: t) = ([32] ++ a) ++ Lib.joinTail [32] t := by simp [Lib.joinTail]
    rw [e, List.length_append, List.length_append, List.length_cons, List.length_cons, List.length_nil, Nat.succ_mul]
    omega
theorem KW {ps : List (List UInt8)} {m : Nat} (h : ∀ p ∈ ps, p.length ≤ m) : (sy ps).length ≤ ps.length * (m + 1) + 1 := by
  unfold sy
  rw [List.length_append]
  show _ + 1 ≤ _
  cases ps with
  | nil => simp [Lib.join_nil]
  | cons a t =>
    rw [Lib.join_cons, List.length_append, List.length_cons, Nat.succ_mul]
    have h1 := La (ps := t) (m := m) fun p hp => h p (List.mem_cons_of_mem _ hp)
    have h2 := h a List.mem_cons_self
    omega
theorem LJ {ps : List (List UInt8)} (h : ∀ p ∈ ps, ∀ b ∈ p, Fv b) : ∀ b ∈ Lib.joinTail [32] ps, Fv b := by
  intro b hb
  unfold Lib.joinTail at hb
  obtain ⟨l, hl, hb⟩ := List.mem_flatten.1 hb
  obtain ⟨p, hp, rfl⟩ := List.mem_map.1 hl
  rcases List.mem_append.1 hb with hb | hb
  · rw [List.mem_singleton.1 hb]; decide
  · exact h p hp b hb
theorem KI {ps : List (List UInt8)} (h : ∀ p ∈ ps, ∀ b ∈ p, Fv b) : ∀ b ∈ Lib.join ps [32], Fv b := by
  cases ps with
  | nil => intro b hb; cases hb
  | cons a t =>
    rw [Lib.join_cons]
    intro b hb
    rcases List.mem_append.1 hb with hb | hb
    · exact h a List.mem_cons_self b hb
    · exact LJ (fun p hp => h p (List.mem_cons_of_mem _ hp)) b hb
theorem K0 (b : List UInt8) (ps : List (List UInt8)) (h1 : ps.length ≤ 100) (h2 : b.length + (sy ps).length ≤ 140737488355328) : BE ⟨b⟩ ps = some ⟨b ++ sy ps⟩ := by
  have e : (sy ps).length = (Lib.join ps [32]).length + 1 := by unfold sy; rw [List.length_append]; rfl
  unfold BE
  rw [if_pos ⟨by omega, by omega⟩, if_pos (by show _ + 1 ≤ Cp; unfold Cp; omega)]
  refine AM (x := (((sy ps).length : Int), Value.nilIface, ⟨b ++ sy ps⟩)) ?_ rfl
  show CZ ⟨b⟩ (sy ps) = _
  unfold CZ
  rw [if_pos ⟨by show b.length + (sy ps).length ≤ Cp; unfold Cp; omega, by show (b.length + (sy ps).length) * 1 ≤ _; omega⟩]

/- An event's line. -/
def JE (k : Int) : List UInt8 := if 0 < k ∧ k < 11 then DK.getD k.toNat default else DK.getD 0 default
def J6 (e : An) : List UInt8 := (((([101, 118, 101, 110, 116, 32] ++ JE e.B6) ++ [32]) ++ Jq e.Bk) ++ [32]) ++ tx e.B3
theorem HQ : ∀ n : Fin 11, (DK.getD n.val default).length ≤ 10 ∧ ∀ b ∈ DK.getD n.val default, Fv b := by decide +kernel
theorem Im (k : Int) : (JE k).length ≤ 10 ∧ ∀ b ∈ JE k, Fv b := by
  unfold JE
  by_cases q : 0 < k ∧ k < 11
  · rw [if_pos q]; exact HQ ⟨k.toNat, by omega⟩
  · rw [if_neg q]; exact HQ ⟨0, by omega⟩
theorem JO (e : An) (h1 : e.Bk.length ≤ 2000) (h2 : CH .u64 e.B3) : BA e = some (J6 e) := by
  have hk := (Im e.B6).1
  have hq := Gl e.Bk
  have hn := H8 (FI h2).2
  have key : BA.j2 e (JE e.B6) = some (J6 e) := by
    unfold BA.j2
    have lA : ∀ (a b : List UInt8), (a ++ b).length = a.length + b.length := fun a b => List.length_append
    have l6 : ([101, 118, 101, 110, 116, 32] : List UInt8).length = 6 := rfl
    have l1 : ([32] : List UInt8).length = 1 := rfl
    rw [if_pos (by unfold Cp; omega), if_pos (by rw [lA]; unfold Cp; omega)]
    refine AM (EZ _ (by omega)) ?_
    rw [if_pos (by rw [lA, lA]; unfold Cp; omega), if_pos (by rw [lA, lA, lA]; unfold Cp; omega)]
    refine AM (EN (FI h2)) ?_
    rw [if_pos (by rw [lA, lA, lA, lA]; unfold Cp; omega)]
    rfl
  unfold BA
  by_cases q : 0 < e.B6
  · rw [if_pos (decide_eq_true q)]
    unfold BA.j1
    by_cases q2 : e.B6 < 11
    · rw [if_pos (decide_eq_true q2), if_pos ⟨by omega, q2⟩]
      have : JE e.B6 = DK.getD e.B6.toNat default := by unfold JE; rw [if_pos ⟨q, q2⟩]
      rw [← this]; exact key
    · rw [if_neg (by rw [decide_eq_false q2]; decide)]
      have : JE e.B6 = DK.getD (0 : Int).toNat default := by unfold JE; rw [if_neg (fun z => q2 z.2)]; rfl
      rw [← this]; exact key
  · rw [if_neg (by rw [decide_eq_false q]; decide)]
    unfold BA.j1
    rw [if_neg (by decide)]
    have : JE e.B6 = DK.getD (0 : Int).toNat default := by unfold JE; rw [if_neg (fun z => q z.1)]; rfl
    rw [← this]; exact key
theorem Kr (e : An) (h1 : e.Bk.length ≤ 2000) (h2 : CH .u64 e.B3) : (J6 e).length ≤ 18040 := by
  have hk := (Im e.B6).1
  have hq := Gl e.Bk
  have hn := H8 (FI h2).2
  unfold J6
  simp only [List.length_append, List.length_cons, List.length_nil]
  omega
theorem Lg (e : An) : ∀ b ∈ J6 e, Fv b := by
  have h6 : ∀ b ∈ ([101, 118, 101, 110, 116, 32] : List UInt8), Fv b := by decide
  have h1 : ∀ b ∈ ([32] : List UInt8), Fv b := by decide
  have ap : ∀ (x y : List UInt8), (∀ b ∈ x, Fv b) → (∀ b ∈ y, Fv b) → ∀ b ∈ x ++ y, Fv b := fun x y hx hy b hb => (List.mem_append.1 hb).elim (hx b) (hy b)
  exact ap _ _ (ap _ _ (ap _ _ (ap _ _ (ap _ _ h6 (Im e.B6).2) h1) (Jp _)) h1) (KC _)
end

section
set_option linter.unusedVariables false
set_option linter.unusedSimpArgs false

/- What is said; what holds of it. -/
def MV (a : Ao) : Prop := a.Bk.length ≤ 200 ∧ CH .u64 a.Dw ∧ CH .u64 a.Dx
def MT (t : Av) : Prop := t.Bk.length ≤ 200 ∧ CH .u32 t.Bw ∧ CH .u64 t.DU
def MU (h : Aq) : Prop := h.CB.length ≤ 200 ∧ h.CC.length ≤ 200 ∧ CH .u32 h.Bw ∧ CH .u64 h.CG
def Md (e : An) : Prop := e.Bk.length ≤ 2000 ∧ CH .u64 e.B3
structure I3 (c : AK) : Prop where
  iD : CH .u32 c.B4
  hg : CH .u64 c.Ae.AO
  tm : CH .u64 c.Ae.Bc
  gs : CH .u64 c.Ae.Bq
  ac : c.Ae.Ap.length ≤ 100 ∧ ∀ y ∈ c.Ae.Ap, MV y
  ev : c.Ae.AD.length ≤ 4100 ∧ ∀ y ∈ c.Ae.AD, Md y
  tk : c.As.Au.length ≤ 60 ∧ ∀ y ∈ c.As.Au, MT y
  hd : c.As.Am.length ≤ 100 ∧ ∀ y ∈ c.As.Am, MU y
  lv : c.Ad.AP.length ≤ 300
  qu : c.Ad.AW.length ≤ 300
  hc : c.Ad.Ai.length = 32
  bd : CH .u64 c.Ad.Be
  rc : CH .u32 c.Aa.Az
  rm : c.Aa.Ai.length = 32
  rr : c.Aa.AT.length ≤ 300
  rs : c.Aa.AB.length ≤ 300
def HB (a b : Int) : Int := if a < b then 0 else IntKind.wrap .u64 (a - b)
theorem Gk (a b : Int) : CH .u64 (HB a b) := by
  unfold HB
  split
  · exact by decide
  · exact En _ _
theorem Jj (a b : Int) : ∃ e, D1 a b = some (HB a b, e) := by
  unfold D1 HB
  by_cases q : a < b
  · rw [if_pos (decide_eq_true q), if_pos q]; exact ⟨_, rfl⟩
  · rw [if_neg (by rw [decide_eq_false q]; decide), if_neg q]; exact ⟨_, rfl⟩
theorem Kd (t : Av) : E9 t = some (HB t.Cb t.Cd, HB t.Cc t.BI) := by
  obtain ⟨e1, h1⟩ := Jj t.Cb t.Cd
  obtain ⟨e2, h2⟩ := Jj t.Cc t.BI
  exact AM h1 (AM h2 rfl)
def Ma (f c : Bool) : List UInt8 := if f = true then [102, 97, 105, 108, 101, 100] else if c = true then [99, 117, 116] else [111, 112, 101, 110]
theorem HD (f c : Bool) : DO f c = some (Ma f c) := by cases f <;> cases c <;> rfl
def cP (k : Int) (y : At) : Bool := decide (y.DT = k)
def Mo (c : AK) : Nat := c.Aa.AB.countP (cP 1)
def Mz (c : AK) : Nat := c.Aa.AB.countP (cP 2)
def Lw (a : Ao) : List (List UInt8) := [[97, 99, 99, 111, 117, 110, 116], Jq a.Bk, [99, 111, 105, 110, 115], tx a.Dx, [110, 111, 110, 99, 101], tx a.Dw]
def Lr (t : Av) : List (List UInt8) := [[116, 111, 107, 101, 110], tx t.Bw, Jq t.Bk, [99, 97, 112], tx t.DU, [108, 111, 99, 107, 101, 100], tx (HB t.Cc t.BI), [109, 105, 110, 116, 101, 100], tx (HB t.Cb t.Cd)]
def LN (h : Aq) : List (List UInt8) := [[104, 111, 108, 100, 115], Jq h.CC, tx h.Bw, Jq h.CB, tx h.CG]
def Ll (c : AK) : List (List UInt8) := [[99, 104, 97, 105, 110], tx c.B4, [104, 101, 105, 103, 104, 116], tx c.Ae.AO, [116, 105, 109, 101], tx c.Ae.Bc, [103, 97, 115], tx c.Ae.Bq]
def LM (c : AK) : List (List UInt8) := [[104, 111, 109, 101], [108, 101, 116, 116, 101, 114, 115], tx (c.Ad.AP.length : Int), [113, 117, 101, 117, 101, 100], tx (c.Ad.AW.length : Int), [114, 111, 111, 116], K2 c.Ad.Ai, [98, 111, 110, 100], tx c.Ad.Be, Ma c.Ad.Aw false]
def LD (c : AK) : List (List UInt8) := [[114, 101, 112, 108, 105, 99, 97], [111, 102], tx c.Aa.Az, [114, 111, 111, 116, 115], tx (c.Aa.AT.length : Int), [115, 104, 111, 119, 110], tx (Mo c : Int), [100, 111, 110, 101], tx (Mz c : Int), [114, 111, 111, 116], K2 c.Aa.Ai, Ma c.Aa.Aw c.Aa.Bn]
def I5 (c : AK) : List An := c.Ae.AD.drop (c.Ae.AD.length - 10)
def Ls (c : AK) (b : List UInt8) : List UInt8 := ((b ++ c.Ae.Ap.flatMap fun a => sy (Lw a)) ++ c.As.Au.flatMap fun t => sy (Lr t)) ++ c.As.Am.flatMap fun h => sy (LN h)
def Fw (c : AK) : List UInt8 := ((Ls c (sy (Ll c)) ++ sy (LM c)) ++ sy (LD c)) ++ (I5 c).flatMap fun e => sy [J6 e]

/- Good parts: short, and plain. -/
abbrev gP (p : List UInt8) : Prop := p.length ≤ 18040 ∧ ∀ b ∈ p, Fv b
theorem c0 : ∀ p ∈ ([] : List (List UInt8)), gP p := by intro p h; cases h
theorem c1 {a : List UInt8} {t : List (List UInt8)} (h1 : gP a) (h2 : ∀ p ∈ t, gP p) : ∀ p ∈ a :: t, gP p := List.forall_mem_cons.2 ⟨h1, h2⟩
theorem gq {l : List UInt8} (h : l.length ≤ 2000) : gP (Jq l) := ⟨by have := Gl l; omega, Jp l⟩
theorem gt {x : Int} (h : x < 18446744073709551616) : gP (tx x) := ⟨by have := H8 h; omega, KC x⟩
theorem J5 {x : Int} (h : CH .u64 x) : gP (tx x) := gt (FI h).2
theorem Mf {x : Int} (h : CH .u32 x) : gP (tx x) := gt (by have := JF h; omega)
theorem gr (d : List UInt8) : gP (K2 d) := ⟨by have := Kb d; omega, K1 d⟩
theorem gs (f c : Bool) : gP (Ma f c) := by cases f <;> cases c <;> decide
theorem ge {e : An} (h : Md e) : gP (J6 e) := ⟨Kr e h.1 h.2, Lg e⟩
theorem gA {a : Ao} (h : MV a) : ∀ p ∈ Lw a, gP p := c1 (by decide) (c1 (gq (by have := h.1; omega)) (c1 (by decide) (c1 (J5 h.2.2) (c1 (by decide) (c1 (J5 h.2.1) c0)))))
theorem gT {t : Av} (h : MT t) : ∀ p ∈ Lr t, gP p := c1 (by decide) (c1 (Mf h.2.1) (c1 (gq (by have := h.1; omega)) (c1 (by decide) (c1 (J5 h.2.2) (c1 (by decide) (c1 (J5 (Gk _ _)) (c1 (by decide) (c1 (J5 (Gk _ _)) c0))))))))
theorem gH {x : Aq} (h : MU x) : ∀ p ∈ LN x, gP p := c1 (by decide) (c1 (gq (by have := h.2.1; omega)) (c1 (Mf h.2.2.1) (c1 (gq (by have := h.1; omega)) (c1 (J5 h.2.2.2) c0))))
theorem gC {c : AK} (h : I3 c) : ∀ p ∈ Ll c, gP p := c1 (by decide) (c1 (Mf h.iD) (c1 (by decide) (c1 (J5 h.hg) (c1 (by decide) (c1 (J5 h.tm) (c1 (by decide) (c1 (J5 h.gs) c0)))))))
theorem gM {c : AK} (h : I3 c) : ∀ p ∈ LM c, gP p := c1 (by decide) (c1 (by decide) (c1 (gt (by have := h.lv; omega)) (c1 (by decide) (c1 (gt (by have := h.qu; omega)) (c1 (by decide) (c1 (gr _) (c1 (by decide) (c1 (J5 h.bd) (c1 (gs _ _) c0)))))))))
theorem Jm (c : AK) : Mo c ≤ c.Aa.AB.length := List.countP_le_length
theorem JS (c : AK) : Mz c ≤ c.Aa.AB.length := List.countP_le_length
theorem gR {c : AK} (h : I3 c) : ∀ p ∈ LD c, gP p := by
  have h1 := Jm c
  have h2 := JS c
  have h3 := h.rs
  exact c1 (by decide) (c1 (by decide) (c1 (Mf h.rc) (c1 (by decide) (c1 (gt (by have := h.rr; omega)) (c1 (by decide) (c1 (gt (by omega)) (c1 (by decide) (c1 (gt (by omega)) (c1 (by decide) (c1 (gr _) (c1 (gs _ _) c0)))))))))))
theorem GP {ps : List (List UInt8)} (h : ∀ p ∈ ps, gP p) (hl : ps.length ≤ 12) : (sy ps).length ≤ 300000 := by
  have := KW (ps := ps) (m := 18040) fun p hp => (h p hp).1
  have : ps.length * (18040 + 1) ≤ 12 * (18040 + 1) := Nat.mul_le_mul_right _ hl
  omega
theorem Mh (a : Ao) : (Lw a).length ≤ 12 := by show 6 ≤ 12; omega
theorem L9 (a : Av) : (Lr a).length ≤ 12 := by show 9 ≤ 12; omega
theorem Mt (a : Aq) : (LN a).length ≤ 12 := by show 5 ≤ 12; omega
theorem Fl (b : List UInt8) {ps : List (List UInt8)} (h : ∀ p ∈ ps, gP p) (hl : ps.length ≤ 12) (hb : b.length ≤ 70368744177664) : BE ⟨b⟩ ps = some ⟨b ++ sy ps⟩ := by
  have := GP h hl
  exact K0 b ps (by omega) (by omega)

/- A loop that says a line for each of a list. -/
theorem EF {R α : Type} [Inhabited α] (l : List α) (body : Int → BJ → Option (D2 R (Int × BJ))) (g : α → List UInt8) (hn : l.length ≤ 10000) (hg : ∀ x ∈ l, (g x).length ≤ 300000)
    (hb : ∀ i, i < l.length → ∀ b : List UInt8, b.length ≤ 70368744177664 → body (i : Int) ⟨b⟩ = some (.cont (((i + 1 : Nat) : Int), ⟨b ++ g (l.getD i default)⟩)))
    (he : ∀ b, body (l.length : Int) b = some (.brk ((l.length : Int), b))) (b : List UInt8) (hbl : b.length ≤ 30000000000000) :
    Cr (fun s : Int × BJ => body s.1 s.2) (((l.length : Int) - 0 : Int).toNat + 2) (0, ⟨b⟩) = some (.next ((l.length : Int), ⟨b ++ l.flatMap g⟩)) := by
  have hk : ∀ i, ((l.take i).flatMap g).length ≤ 3000000000 := fun i => by
    have h1 := Jh hg i
    have h2 : 300000 * l.length ≤ 300000 * 10000 := Nat.mul_le_mul_left _ hn
    omega
  have h := Hf (body := fun s : Int × BJ => body s.1 s.2) (fun i => ((i : Int), (⟨b ++ (l.take i).flatMap g⟩ : BJ))) l.length (fun i hi => by
    have := hk i
    show body (i : Int) ⟨_⟩ = some (.cont (((i + 1 : Nat) : Int), ⟨_⟩))
    rw [hb i hi _ (by rw [List.length_append]; omega), Ix l g i hi, List.append_assoc]) ((l.length : Int), ⟨b ++ l.flatMap g⟩) (by
    show body (l.length : Int) ⟨_⟩ = _
    rw [he, List.take_length]) l.length 0 (((l.length : Int) - 0 : Int).toNat + 2) (by omega) (by omega)
  rw [← h]
  congr 1
  show _ = (((0 : Nat) : Int), (⟨b ++ (l.take 0).flatMap g⟩ : BJ))
  rw [List.take_zero, List.flatMap_nil, List.append_nil]
  rfl
theorem GI {i n : Nat} (h : i < n) (hn : n ≤ 10000) : IntKind.wrap .i64 ((i : Int) + 1) = ((i + 1 : Nat) : Int) := by rw [GZ (by omega)]; omega
theorem Lf {α : Type} {l : List α} {g : α → List UInt8} (hn : l.length ≤ 10000) (hg : ∀ x ∈ l, (g x).length ≤ 300000) : (l.flatMap g).length ≤ 3000000000 := by
  have h1 := JJ hg
  have h2 : 300000 * l.length ≤ 300000 * 10000 := Nat.mul_le_mul_left _ hn
  omega
theorem IZ {c : AK} (h : I3 c) (b : List UInt8) (hb : b.length ≤ 10000000) : AS ⟨b⟩ c = some ⟨Ls c b⟩ := by
  have l1 := h.ac.1
  have l2 := h.tk.1
  have l3 := h.hd.1
  have n1 := Lf (l := c.Ae.Ap) (g := fun a => sy (Lw a)) (by omega) (fun x hx => GP (gA (h.ac.2 x hx)) (Mh _))
  have n2 := Lf (l := c.As.Au) (g := fun t => sy (Lr t)) (by omega) (fun x hx => GP (gT (h.tk.2 x hx)) (L9 _))
  unfold AS
  refine Dh (EF c.Ae.Ap (AS.b1 c) (fun a => sy (Lw a)) (by omega) (fun x hx => GP (gA (h.ac.2 x hx)) (Mh _)) (fun i hi b hb => ?_) (fun b => ?_) b (by omega)) ?_
  · have ok := h.ac.2 _ (get_mem hi)
    unfold AS.b1
    rw [if_pos (decide_eq_true (by omega)), if_pos (by omega), show ((i : Nat) : Int).toNat = i by omega, GI hi (by omega)]
    exact AM (EZ _ (by have := ok.1; omega)) (AM (EN (FI ok.2.2)) (AM (EN (FI ok.2.1)) (AM (Fl b (gA ok) (Mh _) hb) rfl)))
  · unfold AS.b1
    rw [if_neg (by rw [decide_eq_false (by omega)]; decide)]
  refine Dh (EF c.As.Au (AS.b2 c) (fun t => sy (Lr t)) (by omega) (fun x hx => GP (gT (h.tk.2 x hx)) (L9 _)) (fun i hi b hb => ?_) (fun b => ?_) _ (by rw [List.length_append]; omega)) ?_
  · have ok := h.tk.2 _ (get_mem hi)
    unfold AS.b2
    rw [if_pos (decide_eq_true (by omega)), if_pos (by omega), show ((i : Nat) : Int).toNat = i by omega, GI hi (by omega)]
    exact AM (Kd _) (AM (or_eq (by have := JF ok.2.1; omega)) (AM (EZ _ (by have := ok.1; omega)) (AM (EN (FI ok.2.2)) (AM (EN (FI (Gk _ _))) (AM (EN (FI (Gk _ _))) (AM (Fl b (gT ok) (L9 _) hb) rfl))))))
  · unfold AS.b2
    rw [if_neg (by rw [decide_eq_false (by omega)]; decide)]
  refine Dh (EF c.As.Am (AS.b3 c) (fun t => sy (LN t)) (by omega) (fun x hx => GP (gH (h.hd.2 x hx)) (Mt _)) (fun i hi b hb => ?_) (fun b => ?_) _ (by rw [List.length_append, List.length_append]; omega)) rfl
  · have ok := h.hd.2 _ (get_mem hi)
    unfold AS.b3
    rw [if_pos (decide_eq_true (by omega)), if_pos (by omega), show ((i : Nat) : Int).toNat = i by omega, GI hi (by omega)]
    exact AM (EZ _ (by have := ok.2.1; omega)) (AM (or_eq (by have := JF ok.2.2.1; omega)) (AM (EZ _ (by have := ok.1; omega)) (AM (EN (FI ok.2.2.2)) (AM (Fl b (gH ok) (Mt _) hb) rfl))))
  · unfold AS.b3
    rw [if_neg (by rw [decide_eq_false (by omega)]; decide)]
theorem Hh {c : AK} (h : I3 c) (b : List UInt8) : (Ls c b).length ≤ b.length + 9000000000 := by
  have l1 := h.ac.1
  have l2 := h.tk.1
  have l3 := h.hd.1
  have n1 := Lf (l := c.Ae.Ap) (g := fun a => sy (Lw a)) (by omega) (fun x hx => GP (gA (h.ac.2 x hx)) (Mh _))
  have n2 := Lf (l := c.As.Au) (g := fun t => sy (Lr t)) (by omega) (fun x hx => GP (gT (h.tk.2 x hx)) (L9 _))
  have n3 := Lf (l := c.As.Am) (g := fun t => sy (LN t)) (by omega) (fun x hx => GP (gH (h.hd.2 x hx)) (Mt _))
  unfold Ls
  rw [List.length_append, List.length_append, List.length_append]
  omega

/- Home and replica. -/
theorem HX (l : List At) (p : At → Bool) (i : Nat) (h : i < l.length) : (l.take (i + 1)).countP p = (l.take i).countP p + if p (l.getD i default) = true then 1 else 0 := by
  have e : l.getD i default = l[i] := by simp [List.getD, h]
  rw [List.take_add_one, List.getElem?_eq_getElem h, List.countP_append, e]
  simp [List.countP_cons]
theorem JX (l : List At) (p : At → Bool) (i : Nat) : (l.take i).countP p ≤ i := by
  have h1 : (l.take i).countP p ≤ (l.take i).length := List.countP_le_length
  rw [List.length_take] at h1
  omega
theorem HZ {c : AK} (h : c.Aa.AB.length ≤ 300) :
    Cr (fun s : Int × Int × Int => A0.b1 c s.1 s.2.1 s.2.2) (((c.Aa.AB.length : Int) - 0 : Int).toNat + 2) (0, 0, 0) = some (.next ((Mo c : Int), (Mz c : Int), (c.Aa.AB.length : Int))) := by
  refine Hf (body := fun s : Int × Int × Int => A0.b1 c s.1 s.2.1 s.2.2) (fun i => ((((c.Aa.AB.take i).countP (cP 1) : Nat) : Int), (((c.Aa.AB.take i).countP (cP 2) : Nat) : Int), (i : Int))) c.Aa.AB.length (fun i hi => ?_) _ ?_ c.Aa.AB.length 0 _ (by omega) (by omega)
  · have k1 := JX c.Aa.AB (cP 1) i
    have k2 := JX c.Aa.AB (cP 2) i
    show A0.b1 c (((c.Aa.AB.take i).countP (cP 1) : Nat) : Int) (((c.Aa.AB.take i).countP (cP 2) : Nat) : Int) (i : Int) = some (.cont ((((c.Aa.AB.take (i + 1)).countP (cP 1) : Nat) : Int), (((c.Aa.AB.take (i + 1)).countP (cP 2) : Nat) : Int), ((i + 1 : Nat) : Int)))
    rw [HX _ _ i hi, HX _ _ i hi]
    unfold A0.b1 A0.j1
    rw [if_pos (decide_eq_true (by omega)), if_pos (by omega), show ((i : Nat) : Int).toNat = i by omega, GI hi (by omega)]
    by_cases q1 : (c.Aa.AB.getD i default).DT = 1
    · have p1 : cP 1 (c.Aa.AB.getD i default) = true := decide_eq_true q1
      have p2 : cP 2 (c.Aa.AB.getD i default) = false := decide_eq_false (by rw [q1]; decide)
      rw [if_pos (decide_eq_true q1), p1, p2, if_pos rfl, if_neg (by decide), GZ (by omega)]
      rfl
    · have p1 : cP 1 (c.Aa.AB.getD i default) = false := decide_eq_false q1
      rw [if_neg (by rw [decide_eq_false q1]; decide), p1]
      by_cases q2 : (c.Aa.AB.getD i default).DT = 2
      · have p2 : cP 2 (c.Aa.AB.getD i default) = true := decide_eq_true q2
        rw [if_pos (decide_eq_true q2), p2, if_pos rfl, GZ (by omega)]
        rfl
      · have p2 : cP 2 (c.Aa.AB.getD i default) = false := decide_eq_false q2
        rw [if_neg (by rw [decide_eq_false q2]; decide), p2]
        rfl
  · show A0.b1 c _ _ (c.Aa.AB.length : Int) = _
    unfold A0.b1
    rw [if_neg (by rw [decide_eq_false (by omega)]; decide), List.take_length]
    rfl
theorem Ja {c : AK} (h : I3 c) (b : List UInt8) (hb : b.length ≤ 10000000000) : A0 ⟨b⟩ c = some ⟨(b ++ sy (LM c)) ++ sy (LD c)⟩ := by
  have h1 := h.lv
  have h2 := h.qu
  have h3 := h.rr
  have h4 := h.rs
  have h5 := Jm c
  have h6 := JS c
  have n1 := GP (gM h) (by show 10 ≤ 12; omega)
  unfold A0
  refine AM (HW _ (by omega)) (AM (HW _ (by omega)) (AM (IB _ h.hc) (AM (EN (FI h.bd)) (AM (HD _ _) (AM (Fl (ps := LM c) b (gM h) (by show 10 ≤ 12; omega) (by omega)) (Dh (HZ h4) ?_))))))
  exact AM (or_eq (by have := JF h.rc; omega)) (AM (HW _ (by omega)) (AM (HW _ (by omega)) (AM (HW _ (by omega)) (AM (IB _ h.rm) (AM (HD _ _) (AM (Fl (ps := LD c) _ (gR h) (by show 12 ≤ 12; omega) (by rw [List.length_append]; omega)) rfl))))))

/- A chain. -/
theorem J7 {l : List An} (h : l.length ≤ 10000) : Cy l 10 = some (l.drop (l.length - 10)) := by
  have e : (if (0 : Int) < (IntKind.wrap .i64 ((l.length : Int) - (if (0 : Int) < 10 then 10 else (0 : Int)))) then (IntKind.wrap .i64 ((l.length : Int) - (if (0 : Int) < 10 then 10 else (0 : Int)))) else (0 : Int)) = ((l.length - 10 : Nat) : Int) := by
    rw [if_pos (show (0 : Int) < 10 by decide), GZ (by omega)]
    split <;> omega
  unfold Cy
  rw [e, if_pos (by omega), show ((l.length : Nat) : Int).toNat = l.length by omega, show ((l.length - 10 : Nat) : Int).toNat = l.length - 10 by omega, List.take_length]
  refine AM (x := l.drop (l.length - 10)) ?_ rfl
  unfold CI
  rw [if_pos (by rw [List.length_drop]; omega)]
theorem HY {c : AK} (h : I3 c) : B0 c = some (Fw c) := by
  have n1 := GP (gC h) (by show 8 ≤ 12; omega)
  have n2 := GP (gM h) (by show 10 ≤ 12; omega)
  have n3 := GP (gR h) (by show 12 ≤ 12; omega)
  have n4 := Hh h (sy (Ll c))
  have h0 := h.ev.1
  have hx : ∀ y ∈ I5 c, Md y := fun y hy => h.ev.2 y (List.mem_of_mem_drop hy)
  have hl : (I5 c).length ≤ 10 := by unfold I5; rw [List.length_drop]; omega
  unfold B0
  refine AM (or_eq (by have := JF h.iD; omega)) (AM (EN (FI h.hg)) (AM (EN (FI h.tm)) (AM (EN (FI h.gs)) (AM (Fl (ps := Ll c) [] (gC h) (by show 8 ≤ 12; omega) (by simp)) (AM (IZ h _ (by rw [List.nil_append]; omega)) (AM (Ja h _ (by rw [List.nil_append]; omega)) (AM (J7 (by omega)) ?_)))))))
  refine Dh (EF (I5 c) (B0.b1 (I5 c)) (fun e => sy [J6 e]) (by omega) (fun x hy => GP (c1 (ge (hx x hy)) c0) (by show 1 ≤ 12; omega)) (fun i hi b hb => ?_) (fun b => ?_) _ (by rw [List.length_append, List.length_append, List.nil_append]; omega)) ?_
  · have ok := hx _ (get_mem hi)
    unfold B0.b1
    rw [if_pos (decide_eq_true (by omega)), if_pos (by omega), show ((i : Nat) : Int).toNat = i by omega, GI hi (by omega)]
    exact AM (JO _ ok.1 ok.2) (AM (Fl b (c1 (ge ok) c0) (by show 1 ≤ 12; omega) hb) rfl)
  · unfold B0.b1
    rw [if_neg (by rw [decide_eq_false (by omega)]; decide)]
  · refine AM (x := Fw c) ?_ rfl
    unfold Ed
    rw [if_pos (by
      intro h0
      have := congrArg List.length h0
      simp only [List.nil_append] at this
      rw [List.length_append, List.length_append, List.length_append] at this
      unfold sy at this
      simp at this)]
    rw [List.nil_append]
    rfl
end

section
set_option linter.unusedVariables false
set_option linter.unusedSimpArgs false

theorem HR {i n : Nat} (h : i < n) (hn : n ≤ Cp) : IntKind.wrap .i64 ((i : Int) + 1) = ((i + 1 : Nat) : Int) := by unfold Cp at hn; rw [GZ (by omega)]; omega
theorem Gr {α : Type} [Inhabited α] {l : List α} {P : α → Prop} (h : ∀ j, j < l.length → P (l.getD j default)) : ∀ y ∈ l, P y := by
  intro y hy
  obtain ⟨j, hj, e⟩ := List.mem_iff_getElem.1 hy
  have := h j hj
  have e2 : l.getD j default = l[j] := by simp [List.getD, hj]
  rwa [e2, e] at this
theorem My (l : A7) (hl : l.Ap.length ≤ Cp) : ∃ b, Bx l = some b ∧ (b = true → (l.Ap.length ≤ 100 ∧ ∀ y ∈ l.Ap, y.Bk.length ≤ 200) ∧ l.AD.length ≤ 4100) := by
  have h := E8 (R := Bool) (body := fun s : Int => Bx.b1 l s) l.Ap.length (fun i => decide ((100 : Int) < (l.Ap.length : Int)) || decide ((200 : Int) < ((l.Ap.getD i default).Bk.length : Int))) false (fun i hi => by
    show Bx.b1 l (i : Int) = _
    unfold Bx.b1 Bx.j1
    rw [if_pos (decide_eq_true (by omega)), if_pos (by omega), HR hi hl, show ((i : Nat) : Int).toNat = i by omega]
    by_cases q : (100 : Int) < (l.Ap.length : Int)
    · rw [if_pos (decide_eq_true q), decide_eq_true q, Bool.true_or]
    · rw [if_neg (by rw [decide_eq_false q]; decide), decide_eq_false q, Bool.false_or]) (by
    show Bx.b1 l (l.Ap.length : Int) = _
    unfold Bx.b1
    rw [if_neg (by rw [decide_eq_false (by omega)]; decide)]) l.Ap.length 0 (((l.Ap.length : Int) - 0 : Int).toNat + 2) (by omega) (by omega)
  unfold Bx
  rcases h with ⟨j, _, _, h⟩ | ⟨hn, h⟩
  · exact ⟨false, AM h rfl, fun e => by cases e⟩
  · have ha : l.Ap.length ≤ 100 ∧ ∀ y ∈ l.Ap, y.Bk.length ≤ 200 := by
      refine ⟨?_, Gr fun j hj => ?_⟩
      · rcases Nat.eq_zero_or_pos l.Ap.length with q | q
        · omega
        · have := hn 0 (Nat.le_refl _) q
          rw [Bool.or_eq_false_iff] at this
          have := of_decide_eq_false this.1
          omega
      · have := hn j (Nat.zero_le _) hj
        rw [Bool.or_eq_false_iff] at this
        have := of_decide_eq_false this.2
        omega
    have : ∃ b, (if (decide ((l.AD.length : Int) ≤ (200 : Int))) = true then Bx.j2 true else (if (decide ((4094 : Int) ≤ (l.AD.length : Int))) = true then Bx.j2 (decide ((l.AD.length : Int) ≤ (4100 : Int))) else Bx.j2 false)) = some b ∧ (b = true → l.AD.length ≤ 4100) := by
      unfold Bx.j2
      by_cases q1 : (l.AD.length : Int) ≤ (200 : Int)
      · rw [if_pos (decide_eq_true q1)]; exact ⟨_, rfl, fun _ => by omega⟩
      · rw [if_neg (by rw [decide_eq_false q1]; decide)]
        split
        · exact ⟨_, rfl, fun e => by have := of_decide_eq_true e; omega⟩
        · exact ⟨_, rfl, fun e => by cases e⟩
    obtain ⟨b, e, k⟩ := this
    exact ⟨b, AM h e, fun q => ⟨ha, k q⟩⟩
theorem Mx (p : Bf) (h1 : p.Au.length ≤ Cp) (h2 : p.Am.length ≤ Cp) : ∃ b, Bj p = some b ∧ (b = true → (p.Au.length ≤ 60 ∧ ∀ y ∈ p.Au, y.Bk.length ≤ 200) ∧ (p.Am.length ≤ 100 ∧ ∀ y ∈ p.Am, y.CB.length ≤ 200 ∧ y.CC.length ≤ 200)) := by
  have ha := E8 (R := Bool) (body := fun s : Int => Bj.b1 p s) p.Au.length (fun i => decide ((200 : Int) < ((p.Au.getD i default).Bk.length : Int))) false (fun i hi => by
    show Bj.b1 p (i : Int) = _
    unfold Bj.b1
    rw [if_pos (decide_eq_true (by omega)), if_pos (by omega), HR hi h1, show ((i : Nat) : Int).toNat = i by omega]) (by
    show Bj.b1 p (p.Au.length : Int) = _
    unfold Bj.b1
    rw [if_neg (by rw [decide_eq_false (by omega)]; decide)]) p.Au.length 0 (((p.Au.length : Int) - 0 : Int).toNat + 2) (by omega) (by omega)
  have hb := E8 (R := Bool) (body := fun s : Int => Bj.b2 p s) p.Am.length (fun i => decide ((200 : Int) < ((p.Am.getD i default).CB.length : Int)) || decide ((200 : Int) < ((p.Am.getD i default).CC.length : Int))) false (fun i hi => by
    show Bj.b2 p (i : Int) = _
    unfold Bj.b2 Bj.j2
    rw [if_pos (decide_eq_true (by omega)), if_pos (by omega), HR hi h2, show ((i : Nat) : Int).toNat = i by omega]
    by_cases q : (200 : Int) < ((p.Am.getD i default).CB.length : Int)
    · rw [if_pos (decide_eq_true q), decide_eq_true q, Bool.true_or]
    · rw [if_neg (by rw [decide_eq_false q]; decide), decide_eq_false q, Bool.false_or]) (by
    show Bj.b2 p (p.Am.length : Int) = _
    unfold Bj.b2
    rw [if_neg (by rw [decide_eq_false (by omega)]; decide)]) p.Am.length 0 (((p.Am.length : Int) - 0 : Int).toNat + 2) (by omega) (by omega)
  have key : ∃ b, Bj.j1 p false = some b ∧ (b = true → (∀ y ∈ p.Au, y.Bk.length ≤ 200) ∧ ∀ y ∈ p.Am, y.CB.length ≤ 200 ∧ y.CC.length ≤ 200) := by
    unfold Bj.j1
    rw [if_neg (by decide)]
    rcases ha with ⟨j, _, _, ha⟩ | ⟨hn, ha⟩
    · exact ⟨_, AM ha rfl, fun e => by cases e⟩
    · rcases hb with ⟨j, _, _, hb⟩ | ⟨hm, hb⟩
      · exact ⟨_, AM ha (AM hb rfl), fun e => by cases e⟩
      · refine ⟨_, AM ha (AM hb rfl), fun _ => ⟨Gr fun j hj => ?_, Gr fun j hj => ?_⟩⟩
        · have := of_decide_eq_false (hn j (Nat.zero_le _) hj)
          omega
        · have := hm j (Nat.zero_le _) hj
          rw [Bool.or_eq_false_iff] at this
          have k1 := of_decide_eq_false this.1
          have k2 := of_decide_eq_false this.2
          omega
  have skip : Bj.j1 p true = some false := by unfold Bj.j1; rw [if_pos rfl]
  unfold Bj
  by_cases q0 : (60 : Int) < (p.Au.length : Int)
  · rw [if_pos (decide_eq_true q0)]; exact ⟨_, skip, fun e => by cases e⟩
  · rw [if_neg (by rw [decide_eq_false q0]; decide)]
    by_cases q : (100 : Int) < (p.Am.length : Int)
    · rw [decide_eq_true q]; exact ⟨_, skip, fun e => by cases e⟩
    · rw [decide_eq_false q]
      obtain ⟨b, e, k⟩ := key
      exact ⟨b, e, fun z => ⟨⟨by omega, (k z).1⟩, by omega, (k z).2⟩⟩
theorem Mw (h : Bl) : ∃ b, CU h = some b ∧ (b = true → h.AP.length ≤ 300 ∧ h.AW.length ≤ 300) := by
  unfold CU CU.j1
  by_cases q1 : (h.AP.length : Int) ≤ 40
  · rw [if_pos (decide_eq_true q1)]
    by_cases q2 : (h.AW.length : Int) ≤ 300
    · rw [if_pos (decide_eq_true q2)]; exact ⟨_, rfl, fun _ => by omega⟩
    · rw [if_neg (by rw [decide_eq_false q2]; decide)]; exact ⟨_, rfl, fun e => by cases e⟩
  · rw [if_neg (by rw [decide_eq_false q1]; decide)]; exact ⟨_, rfl, fun e => by cases e⟩
theorem Mv (h : A6) : ∃ b, CT h = some b ∧ (b = true → h.AT.length ≤ 300 ∧ h.AB.length ≤ 300) := by
  unfold CT CT.j1
  by_cases q1 : (h.AF.length : Int) ≤ 20
  · rw [if_pos (decide_eq_true q1)]
    by_cases q2 : (h.AT.length : Int) ≤ 300
    · rw [if_pos (decide_eq_true q2)]; exact ⟨_, rfl, fun e => by have := of_decide_eq_true e; omega⟩
    · rw [if_neg (by rw [decide_eq_false q2]; decide)]; exact ⟨_, rfl, fun e => by cases e⟩
  · rw [if_neg (by rw [decide_eq_false q1]; decide)]; exact ⟨_, rfl, fun e => by cases e⟩
/- What a call brings of a chain. -/
def MY (l : A7) : Prop := (CH .u64 l.AO) ∧ (CH .u64 l.Bc) ∧ (CH .u64 l.Bq) ∧ (l.Ap.length ≤ Cp ∧ ∀ y ∈ l.Ap, (y.Bk.length ≤ Cp) ∧ (y.E6.length = 32) ∧ (CH .u64 y.Dw) ∧ (CH .u64 y.Dx)) ∧
  (l.AD.length ≤ Cp ∧ ∀ y ∈ l.AD, (CH .i64 y.B6) ∧ (y.Bk.length ≤ Cp) ∧ (CH .u64 y.B3) ∧ (y.Cm.length = 32))
def MX (p : Bf) : Prop := (p.Au.length ≤ Cp ∧ ∀ y ∈ p.Au, (CH .u32 y.Bw) ∧ (y.Bk.length ≤ Cp) ∧ (CH .u64 y.DU) ∧ (CH .u64 y.Cc) ∧ (CH .u64 y.BI) ∧ (CH .u64 y.Cb) ∧ (CH .u64 y.Cd)) ∧
  (p.Am.length ≤ Cp ∧ ∀ y ∈ p.Am, (CH .u32 y.Bw) ∧ (y.CB.length ≤ Cp) ∧ (y.CC.length ≤ Cp) ∧ (CH .u64 y.CG))
theorem Mu (c : AK) (g1 : CH .u32 c.B4) (g2 : MY c.Ae) (g3 : MX c.As) (g4 : c.Ad.Ai.length = 32) (g5 : CH .u64 c.Ad.Be) (g6 : CH .u32 c.Aa.Az) (g7 : c.Aa.Ai.length = 32) :
    ∃ b, CA c = some b ∧ (b = true → (∀ y ∈ c.Ae.AD, y.Bk.length ≤ 2000) → I3 c) := by
  obtain ⟨a1, a2, a3, ⟨a4, a5⟩, a6, a7⟩ := g2
  obtain ⟨⟨p1, p2⟩, p3, p4⟩ := g3
  obtain ⟨b1, e1, k1⟩ := My c.Ae a4
  obtain ⟨b2, e2, k2⟩ := Mx c.As p1 p3
  obtain ⟨b3, e3, k3⟩ := Mw c.Ad
  obtain ⟨b4, e4, k4⟩ := Mv c.Aa
  unfold CA CA.j1
  have no : ∀ (P : Prop), (false = true → P) := fun P e => by cases e
  cases b1 with
  | false => exact ⟨false, AM e1 rfl, no _⟩
  | true =>
  cases b2 with
  | false => exact ⟨false, AM e1 (AM e2 rfl), no _⟩
  | true =>
  cases b3 with
  | false => exact ⟨false, AM e1 (AM e2 (AM e3 rfl)), no _⟩
  | true =>
  cases b4 with
  | false => exact ⟨false, AM e1 (AM e2 (AM e3 (AM e4 rfl))), no _⟩
  | true =>
    obtain ⟨m1, m2⟩ := k1 rfl
    obtain ⟨m3, m4⟩ := k2 rfl
    obtain ⟨m5, m6⟩ := k3 rfl
    obtain ⟨m7, m8⟩ := k4 rfl
    refine ⟨_, AM e1 (AM e2 (AM e3 (AM e4 rfl))), fun _ he => ?_⟩
    exact ⟨g1, a1, a2, a3, ⟨m1.1, fun y hy => ⟨m1.2 y hy, (a5 y hy).2.2.1, (a5 y hy).2.2.2⟩⟩, ⟨m2, fun y hy => ⟨he y hy, (a7 y hy).2.2.1⟩⟩, ⟨m3.1, fun y hy => ⟨m3.2 y hy, (p2 y hy).1, (p2 y hy).2.2.1⟩⟩, ⟨m4.1, fun y hy => ⟨(m4.2 y hy).1, (m4.2 y hy).2, (p4 y hy).1, (p4 y hy).2.2.2⟩⟩, m5, m6, g4, g5, g6, g7, m7, m8⟩

/- How many lines; their bytes; the last. -/
theorem Fq {ps : List (List UInt8)} (h : ∀ p ∈ ps, gP p) : (sy ps).count 10 = 1 := by
  unfold sy
  rw [List.count_append]
  have : (Lib.join ps [32]).count 10 = 0 := by
    rw [List.count_eq_zero]
    intro hb
    have := KI (fun p hp => (h p hp).2) 10 hb
    exact absurd this.1 (by decide)
  rw [this]
  rfl
theorem Hv {α : Type} {l : List α} {g : α → List UInt8} (h : ∀ x ∈ l, (g x).count 10 = 1) : (l.flatMap g).count 10 = l.length := by
  induction l with
  | nil => rfl
  | cons a t ih => rw [List.flatMap_cons, List.count_append, h a List.mem_cons_self, ih fun x hx => h x (List.mem_cons_of_mem _ hx), List.length_cons]; omega
theorem Hs {c : AK} (h : I3 c) : ∀ y ∈ I5 c, Md y := fun y hy => h.ev.2 y (List.mem_of_mem_drop hy)
theorem IS {c : AK} (h : I3 c) : (Fw c).count 10 = 3 + c.Ae.Ap.length + c.As.Au.length + c.As.Am.length + min 10 c.Ae.AD.length := by
  unfold Fw Ls
  simp only [List.count_append]
  rw [Fq (gC h), Fq (gM h), Fq (gR h), Hv (fun x hx => Fq (gA (h.ac.2 x hx))), Hv (fun x hx => Fq (gT (h.tk.2 x hx))), Hv (fun x hx => Fq (gH (h.hd.2 x hx))), Hv (fun x hx => Fq (c1 (ge (Hs h x hx)) c0))]
  unfold I5
  rw [List.length_drop]
  omega
abbrev aB (b : UInt8) : Prop := b = 10 ∨ Fv b
theorem Gw {ps : List (List UInt8)} (h : ∀ p ∈ ps, gP p) : ∀ b ∈ sy ps, aB b := by
  intro b hb
  rcases List.mem_append.1 hb with hb | hb
  · exact .inr (KI (fun p hp => (h p hp).2) b hb)
  · exact .inl (List.mem_singleton.1 hb)
theorem Lk {c : AK} (h : I3 c) : ∀ b ∈ Fw c, aB b := by
  have ap : ∀ (x y : List UInt8), (∀ b ∈ x, aB b) → (∀ b ∈ y, aB b) → ∀ b ∈ x ++ y, aB b := fun x y hx hy b hb => (List.mem_append.1 hb).elim (hx b) (hy b)
  have fm : ∀ {α : Type} (l : List α) (g : α → List UInt8), (∀ x ∈ l, ∀ b ∈ g x, aB b) → ∀ b ∈ l.flatMap g, aB b := fun l g hg b hb => by
    obtain ⟨x, hx, hb⟩ := List.mem_flatMap.1 hb
    exact hg x hx b hb
  exact ap _ _ (ap _ _ (ap _ _ (ap _ _ (ap _ _ (ap _ _ (Gw (gC h)) (fm _ _ fun x hx => Gw (gA (h.ac.2 x hx)))) (fm _ _ fun x hx => Gw (gT (h.tk.2 x hx)))) (fm _ _ fun x hx => Gw (gH (h.hd.2 x hx)))) (Gw (gM h))) (Gw (gR h))) (fm _ _ fun x hx => Gw (c1 (ge (Hs h x hx)) c0))
theorem JP {α : Type} (g : α → List UInt8) (hg : ∀ x, ∃ t, g x = t ++ [10]) : ∀ (l : List α) (b : List UInt8), (∃ t, b = t ++ [10]) → ∃ t, b ++ l.flatMap g = t ++ [10]
  | [], b, h => by simpa using h
  | a :: l, b, h => by
    rw [List.flatMap_cons, ← List.append_assoc]
    refine JP g hg l _ ?_
    obtain ⟨t, e⟩ := hg a
    exact ⟨b ++ t, by rw [e, List.append_assoc]⟩
theorem Ku (c : AK) : ∃ t, Fw c = t ++ [10] :=
  JP _ (fun e => ⟨_, rfl⟩) (I5 c) _ ⟨(Ls c (sy (Ll c)) ++ sy (LM c)) ++ Lib.join (LD c) [32], by unfold sy; simp only [List.append_assoc]⟩
theorem Ky : CL = some true := by
  have ok : I3 (AK.mk (0 : Int) (A7.mk (0 : Int) (0 : Int) (0 : Int) [] []) (Bf.mk [] []) (Bl.mk (0 : Int) (List.replicate 32 0) (Bo.mk (0 : Int) (List.replicate 32 (List.replicate 32 0))) [] [] (List.replicate 32 0) [] (0 : Int) false) (A6.mk (0 : Int) (0 : Int) (List.replicate 32 0) [] (0 : Int) (List.replicate 32 0) [] [] false false) []) :=
    ⟨(by decide : CH .u32 0), (by decide : CH .u64 0), (by decide : CH .u64 0), (by decide : CH .u64 0), ⟨Nat.zero_le _, fun y hy => by cases hy⟩, ⟨Nat.zero_le _, fun y hy => by cases hy⟩, ⟨Nat.zero_le _, fun y hy => by cases hy⟩, ⟨Nat.zero_le _, fun y hy => by cases hy⟩, Nat.zero_le _, Nat.zero_le _, List.length_replicate, (by decide : CH .u64 0), (by decide : CH .u32 0), List.length_replicate, Nat.zero_le _, Nat.zero_le _⟩
  have h3 := IS ok
  unfold CL
  refine AM (HY ok) (AM (x := 3) ?_ rfl)
  unfold DP Lib.countByte
  rw [h3]
  rfl
end

section
set_option linter.unusedVariables false
set_option linter.unusedSimpArgs false

theorem Jt {c : AK} (h : I3 c) : ∃ i, Cr (fun s : Int => AL.b2 (Fw c) s) ((((Fw c).length : Int) - 0 : Int).toNat + 2) 0 = some (.next i) := by
  have hl : (Fw c).length ≤ Cp := by
    have n1 := GP (gC h) (by show 8 ≤ 12; omega)
    have n2 := GP (gM h) (by show 10 ≤ 12; omega)
    have n3 := GP (gR h) (by show 12 ≤ 12; omega)
    have n4 := Hh h (sy (Ll c))
    have n5 := Lf (l := I5 c) (g := fun e => sy [J6 e]) (by unfold I5; rw [List.length_drop]; have := h.ev.1; omega) (fun x hx => GP (c1 (ge (Hs h x hx)) c0) (by show 1 ≤ 12; omega))
    unfold Fw Cp
    rw [List.length_append, List.length_append, List.length_append]
    omega
  have ha := E8 (R := Bool) (body := fun s : Int => AL.b2 (Fw c) s) (Fw c).length (fun i => !decide ((((Fw c).getD i 0).toNat : Int) = 10) && (decide ((((Fw c).getD i 0).toNat : Int) < 32) || decide (126 < (((Fw c).getD i 0).toNat : Int)))) false (fun i hi => by
    show AL.b2 (Fw c) (i : Int) = _
    unfold AL.b2 AL.j1
    rw [if_pos (decide_eq_true (by omega)), if_pos (by omega), HR hi hl, show ((i : Nat) : Int).toNat = i by omega]
    by_cases q1 : (((Fw c).getD i 0).toNat : Int) = 10
    · rw [decide_eq_true q1, if_neg (by decide), Bool.not_true, Bool.false_and]
    · rw [decide_eq_false q1, if_pos (by decide), Bool.not_false, Bool.true_and]
      by_cases q2 : (((Fw c).getD i 0).toNat : Int) < 32
      · rw [if_pos (decide_eq_true q2), decide_eq_true q2, Bool.true_or]
      · rw [if_neg (by rw [decide_eq_false q2]; decide), decide_eq_false q2, Bool.false_or]) (by
    show AL.b2 (Fw c) ((Fw c).length : Int) = _
    unfold AL.b2
    rw [if_neg (by rw [decide_eq_false (by omega)]; decide)]) (Fw c).length 0 ((((Fw c).length : Int) - 0 : Int).toNat + 2) (by omega) (by omega)
  rcases ha with ⟨j, hj, hp, _⟩ | ⟨_, ha⟩
  · exfalso
    have e : (Fw c).getD j 0 = (Fw c)[j] := by simp [List.getD, hj]
    have hb := Lk h _ (List.getElem_mem hj)
    rw [← e] at hb
    rw [Bool.and_eq_true] at hp
    obtain ⟨h1, h2⟩ := hp
    rcases hb with hb | ⟨h3, h4⟩
    · rw [hb] at h1; exact absurd h1 (by decide)
    · rw [decide_eq_false (by omega), decide_eq_false (by omega)] at h2
      exact absurd h2 (by decide)
  · exact ⟨_, ha⟩
theorem FT (c : AK) (g1 : CH .u32 c.B4) (g2 : MY c.Ae) (g3 : MX c.As) (g4 : c.Ad.Ai.length = 32) (g5 : CH .u64 c.Ad.Be) (g6 : CH .u32 c.Aa.Az) (g7 : c.Aa.Ai.length = 32) :
    AL c = some true := by
  obtain ⟨b, e1, k⟩ := Mu c g1 g2 g3 g4 g5 g6 g7
  have hel := g2.2.2.2.2.1
  unfold AL
  refine AM Ky ?_
  rw [if_neg (by decide)]
  refine AM e1 ?_
  cases b with
  | false => rfl
  | true =>
    rw [if_neg (by decide)]
    have ha := E8 (R := Bool) (body := fun s : Int => AL.b1 c s) c.Ae.AD.length (fun i => decide ((2000 : Int) < ((c.Ae.AD.getD i default).Bk.length : Int))) true (fun i hi => by
      show AL.b1 c (i : Int) = _
      unfold AL.b1
      rw [if_pos (decide_eq_true (by omega)), if_pos (by omega), HR hi hel, show ((i : Nat) : Int).toNat = i by omega]) (by
      show AL.b1 c (c.Ae.AD.length : Int) = _
      unfold AL.b1
      rw [if_neg (by rw [decide_eq_false (by omega)]; decide)]) c.Ae.AD.length 0 (((c.Ae.AD.length : Int) - 0 : Int).toNat + 2) (by omega) (by omega)
    rcases ha with ⟨j, _, _, ha⟩ | ⟨hn, ha⟩
    · exact AM ha rfl
    · have ok := k rfl (Gr fun j hj => by
        have := of_decide_eq_false (hn j (Nat.zero_le _) hj)
        omega)
      obtain ⟨i, hi⟩ := Jt ok
      have n1 := ok.ac.1
      have n2 := ok.tk.1
      have n3 := ok.hd.1
      have n4 := ok.ev.1
      refine Dh ha (AM (HY ok) (Dh hi (AM (x := (((Fw c).count 10 : Nat) : Int)) rfl ?_)))
      have hm : (if (c.Ae.AD.length : Int) < (10 : Int) then (c.Ae.AD.length : Int) else (10 : Int)) = ((min 10 c.Ae.AD.length : Nat) : Int) := by split <;> omega
      rw [hm, IS ok, GZ (x := 3 + (c.Ae.Ap.length : Int)) (by omega), GZ (x := 3 + (c.Ae.Ap.length : Int) + (c.As.Au.length : Int)) (by omega), GZ (x := 3 + (c.Ae.Ap.length : Int) + (c.As.Au.length : Int) + (c.As.Am.length : Int)) (by omega), GZ (by omega), if_pos (decide_eq_true (by omega))]
      obtain ⟨t, ht⟩ := Ku c
      have hl : (Fw c).length = t.length + 1 := by rw [ht, List.length_append]; rfl
      have hb : (Fw c).length < 9223372036854775807 := by
        have m1 := GP (gC ok) (by show 8 ≤ 12; omega)
        have m2 := GP (gM ok) (by show 10 ≤ 12; omega)
        have m3 := GP (gR ok) (by show 12 ≤ 12; omega)
        have m4 := Hh ok (sy (Ll c))
        have m5 := Lf (l := I5 c) (g := fun e => sy [J6 e]) (by unfold I5; rw [List.length_drop]; omega) (fun x hx => GP (c1 (ge (Hs ok x hx)) c0) (by show 1 ≤ 12; omega))
        unfold Fw
        rw [List.length_append, List.length_append, List.length_append]
        omega
      rw [GZ (by omega), if_pos (by omega), show (((Fw c).length : Int) - 1).toNat = t.length by omega]
      have e : (Fw c).getD t.length 0 = 10 := by rw [ht]; simp [List.getD]
      rw [e]
      rfl
end
end Go.Proofs.YtemnhknjphjpnaaDoor
