/- Plain laws: P1, P94, P95, P96, P97, P98, P99, P100, P102, P103, P104, P105, P106, as one text. -/
import Derived.Test.YtemnhknjphjpnaaDoorG4
import Derived.Lib.ItoaNum
import Derived.Lib.ItoaLen
import Derived.Laws.BitsLemmas
import Derived.Lib.TrimUEq
import Derived.Lib.DecodeNEq
namespace Go.Proofs.YtemnhknjphjpnaaDoor
open Go Go.RowKit Go.Proofs
section
set_option linter.unusedVariables false

theorem AL {α β : Type} {o : Option α} {f : α → Option β} {x : α} {r : Option β} (h : o = some x) (h2 : f x = r) : o.bind f = r := by subst h; exact h2
theorem CC {R S T : Type} {o : Option (MN R S)} {k : MN R S → Option T} {s : S} {r : Option T} (h : o = some (.next s)) (h2 : k (.next s) = r) : o.bind k = r := by subst h; exact h2
theorem FX {R S : Type} {body : S → Option (Ds R S)} (I : S → Prop) (Q : MN R S → Prop) (m : S → Nat)
    (h : ∀ s, I s → (∃ s', body s = some (.cont s') ∧ I s' ∧ m s' < m s) ∨ (∃ s', body s = some (.brk s') ∧ Q (.next s')) ∨ ∃ r, body s = some (.ret r) ∧ Q (.ret r)) :
    ∀ (k : Nat) (s : S), I s → m s < k → ∃ c, Cs body k s = some c ∧ Q c
  | 0, s, _, hk => by omega
  | k + 1, s, hI, hk => by
    unfold Cs
    rcases h s hI with ⟨s', h1, h2, h3⟩ | ⟨s', h1, h2⟩ | ⟨r, h1, h2⟩
    · rw [h1]; exact FX I Q m h k s' h2 (by omega)
    · rw [h1]; exact ⟨_, rfl, h2⟩
    · rw [h1]; exact ⟨_, rfl, h2⟩
theorem FB {x : Int} (h : -9223372036854775808 ≤ x ∧ x ≤ 9223372036854775807) : IntKind.wrap .i64 x = x := by
  simp only [IntKind.wrap, IntKind.bits, IntKind.signed]
  simp
  omega
end

section
set_option linter.unusedVariables false
set_option linter.unusedSimpArgs false

theorem H6 (a i : Nat) (hi : i < 64) : shr .u64 (a : Int) (i : Int) = ((a / 2 ^ i : Nat) : Int) := by
  unfold shr
  have e : min ((i : Nat) : Int).toNat IntKind.u64.bits = i := by
    have : IntKind.u64.bits = 64 := rfl
    rw [this]; omega
  have e2 : ((2 : Int) ^ i) = ((2 ^ i : Nat) : Int) := by simp
  rw [e, e2, Int.fdiv_eq_ediv_of_nonneg _ (Int.natCast_nonneg _)]
  exact (Int.natCast_ediv a (2 ^ i)).symm
theorem MV (a : Nat) : shr .i64 (a : Int) 18 = ((a / 262144 : Nat) : Int) := by
  unfold shr
  have e : min (18 : Int).toNat IntKind.i64.bits = 18 := rfl
  have e2 : ((2 : Int) ^ 18) = ((262144 : Nat) : Int) := by simp
  rw [e, e2, Int.fdiv_eq_ediv_of_nonneg _ (Int.natCast_nonneg _)]
  exact (Int.natCast_ediv a 262144).symm
theorem NR : ∀ (m : Fin 8) (n : Fin 256), bits_Len64.j3 (n.val : Int) ((8 * m.val : Nat) : Int) = some ((8 * m.val + Lib.bitLen n.val : Nat) : Int) := by decide +kernel
theorem M0 (u : Nat) (h : u < 18446744073709551616) : bits_Len64 (u : Int) = some ((Lib.bitLen u : Nat) : Int) := by
  have k3 : ∀ (m n : Nat), m < 8 → n < 256 → bits_Len64.j3 (n : Int) ((8 * m : Nat) : Int) = some ((8 * m + Lib.bitLen n : Nat) : Int) := fun m n hm hn => NR ⟨m, hm⟩ ⟨n, hn⟩
  have k2 : ∀ (m n : Nat), m < 7 → n < 65536 → bits_Len64.j2 (n : Int) ((8 * m : Nat) : Int) = some ((8 * m + Lib.bitLen n : Nat) : Int) := fun m n hm hn => by
    unfold bits_Len64.j2
    by_cases q : 256 ≤ n
    · have e := Lib.bitLen_shift8 n q (by omega)
      rw [if_pos (decide_eq_true (by omega)), show shr .u64 (n : Int) 8 = ((n / 2 ^ 8 : Nat) : Int) from H6 n 8 (by omega), FB (by omega), show ((8 * m : Nat) : Int) + 8 = ((8 * (m + 1) : Nat) : Int) by omega]
      refine (k3 (m + 1) (n / 2 ^ 8) (by omega) (by omega)).trans ?_
      rw [e, show n / 2 ^ 8 = n / 256 from rfl]
      congr 1; omega
    · rw [if_neg (by rw [decide_eq_false (by omega)]; decide)]
      exact k3 m n (by omega) (by omega)
  have k1 : ∀ (m n : Nat), m < 5 → n < 4294967296 → bits_Len64.j1 (n : Int) ((8 * m : Nat) : Int) = some ((8 * m + Lib.bitLen n : Nat) : Int) := fun m n hm hn => by
    unfold bits_Len64.j1
    by_cases q : 65536 ≤ n
    · have e := Lib.bitLen_shift16 n q (by omega)
      rw [if_pos (decide_eq_true (by omega)), show shr .u64 (n : Int) 16 = ((n / 2 ^ 16 : Nat) : Int) from H6 n 16 (by omega), FB (by omega), show ((8 * m : Nat) : Int) + 16 = ((8 * (m + 2) : Nat) : Int) by omega]
      refine (k2 (m + 2) (n / 2 ^ 16) (by omega) (by omega)).trans ?_
      rw [e, show n / 2 ^ 16 = n / 65536 from rfl]
      congr 1; omega
    · rw [if_neg (by rw [decide_eq_false (by omega)]; decide)]
      exact k2 m n (by omega) (by omega)
  unfold bits_Len64
  by_cases q : 4294967296 ≤ u
  · have e := Lib.bitLen_shift32 u q h
    rw [if_pos (decide_eq_true (by omega)), show shr .u64 (u : Int) 32 = ((u / 2 ^ 32 : Nat) : Int) from H6 u 32 (by omega)]
    refine (k1 4 (u / 2 ^ 32) (by omega) (by omega)).trans ?_
    rw [e, show u / 2 ^ 32 = u / 4294967296 from rfl]
  · rw [if_neg (by rw [decide_eq_false (by omega)]; decide)]
    refine (k1 0 u (by omega) (by omega)).trans ?_
    congr 1; omega
theorem Ml : ∀ n : Fin 20, KS.getD n.val 0 = ((10 ^ n.val : Nat) : Int) := by decide +kernel
theorem HZ (u : Nat) (h1 : 1 ≤ u) (h : u < 18446744073709551616) : C8 (u : Int) = some ((Lib.nDigits u : Nat) : Int) := by
  obtain ⟨e1, e2⟩ := Lib.numDigits_eq u h1 h
  have hb : Lib.bitLen u ≤ 64 := Lib.bitLen_le u 64 (Nat.le_refl _) h
  unfold C8
  refine AL (M0 u h) (AL (x := ((Lib.l10 (Lib.bitLen u) : Nat) : Int)) ?_ ?_)
  · unfold DW Lib.l10
    rw [FB (by omega), show ((Lib.bitLen u : Nat) : Int) * 78913 = ((Lib.bitLen u * 78913 : Nat) : Int) by omega, MV]
  · generalize Lib.l10 (Lib.bitLen u) = q at e1 e2
    have hp := Ml ⟨q, by omega⟩
    rw [if_pos (by omega), show ((q : Nat) : Int).toNat = q by omega, hp]
    unfold DX
    by_cases w : 10 ^ q ≤ u
    · rw [if_pos w] at e1
      rw [if_pos (decide_eq_true (by exact_mod_cast w))]
      show some (IntKind.wrap .i64 ((q : Int) + 1)) = _
      rw [FB (by omega), ← e1]
      rfl
    · rw [if_neg w] at e1
      rw [if_neg (by rw [decide_eq_false (by exact_mod_cast w)]; decide)]
      show some (IntKind.wrap .i64 ((q : Int) + 0)) = _
      rw [FB (by omega), ← e1]
      rfl
end

section
set_option linter.unusedVariables false
set_option linter.unusedSimpArgs false

theorem Hm {n : Nat} (h : n < 10) : Lib.decDigits n = [UInt8.ofNat (48 + n)] := by rw [Lib.decDigits, dif_pos h]
theorem LF {n : Nat} (h : ¬ n < 10) (h2 : n < 100) : Lib.decDigits n = [UInt8.ofNat (48 + n / 10), UInt8.ofNat (48 + n % 10)] := by
  rw [Lib.decDigits, dif_neg h, Hm (by omega)]; rfl
theorem JW : ∀ n : Fin 10, DC (n.val : Int) = some [UInt8.ofNat (48 + n.val)] := by decide +kernel
theorem JV : ∀ n : Fin 100, 10 ≤ n.val → DC (n.val : Int) = some [UInt8.ofNat (48 + n.val / 10), UInt8.ofNat (48 + n.val % 10)] := by decide +kernel
theorem IB {n : Nat} (h : n < 100) : DC (n : Int) = some (Lib.decDigits n) := by
  by_cases q : n < 10
  · rw [Hm q]; exact JW ⟨n, q⟩
  · rw [LF q h]; exact JV ⟨n, h⟩ (by show 10 ≤ n; omega)
theorem Mt (u : Nat) (h : u < 18446744073709551616) : C3 (u : Int) 10 = some (Lib.decDigits u) := by
  unfold C3
  rw [if_pos (by decide)]
  by_cases q : u < 100
  · rw [if_pos (decide_eq_true (by omega)), FB (by omega)]
    exact AL (IB q) rfl
  · rw [if_neg (by rw [decide_eq_false (by omega)]; decide)]
    have hn := Lib.nDigits_le20 u h
    refine AL (HZ u (by omega) h) ?_
    have e : ((Lib.nDigits u : Nat) : Int).toNat = Lib.nDigits u := by omega
    have hr : (List.replicate 24 (0 : UInt8)).length = 24 := by simp
    rw [if_pos (by omega), e, show (0 : Int).toNat = 0 from rfl, show ((u : Nat) : Int).toNat = u by omega, if_pos (by simp only [List.length_replicate]; omega), if_pos (by omega), if_pos (by omega)]
    congr 1
    unfold HG
    rw [show ((u : Nat) : Int).toNat = u by omega, List.take_zero, List.nil_append, Nat.sub_zero, List.take_left' (Lib.decDigits_length u)]
theorem KT (u : Nat) (h : u < 18446744073709551616) : Ch (u : Int) 10 = some (Lib.decDigits u) := AL (Mt u h) rfl
theorem Ls (u : Nat) (h : u < 18446744073709551616) : Cg (u : Int) = some (Lib.decDigits u) := AL (KT u h) rfl
theorem LA (u : Nat) (h : u < 9223372036854775808) : Ea (u : Int) = some (Lib.decDigits u) := by
  refine AL (x := Lib.decDigits u) (AL (x := Lib.decDigits u) ?_ rfl) rfl
  unfold BF
  rw [if_pos (by decide), if_pos (decide_eq_true (by omega))]
  unfold BF.j1
  by_cases q : u < 100
  · rw [decide_eq_true (show ((u : Nat) : Int) < 100 by omega), if_pos rfl]
    exact AL (IB q) rfl
  · rw [decide_eq_false (show ¬ ((u : Nat) : Int) < 100 by omega), if_neg (by decide), if_neg (by rw [decide_eq_false (by omega)]; decide)]
    have hw : IntKind.wrap .u64 (u : Int) = (u : Int) := by rw [IntKind.wrap_u64]; omega
    rw [hw]
    unfold BF.j2
    have hn := Lib.nDigits_le20 u (by omega)
    refine AL (HZ u (by omega) (by omega)) ?_
    have hr : (List.replicate 24 (0 : UInt8)).length = 24 := by simp
    have e0 : IntKind.wrap .i64 (1 + ((Lib.nDigits u : Nat) : Int)) = ((1 + Lib.nDigits u : Nat) : Int) := by rw [FB (by omega)]; omega
    have e : ((1 + Lib.nDigits u : Nat) : Int).toNat = 1 + Lib.nDigits u := by omega
    rw [e0, if_pos (by omega), e, show (1 : Int).toNat = 1 from rfl, show ((u : Nat) : Int).toNat = u by omega, if_pos (by simp only [List.length_replicate]; omega), if_neg (by rw [decide_eq_false (by omega)]; decide), if_pos (by unfold Bw; omega)]
    congr 1
    unfold HG
    rw [show ((u : Nat) : Int).toNat = u by omega]
    have hl := Lib.decDigits_length u
    have hA : ((List.replicate 24 (0 : UInt8)).take 1 ++ Lib.decDigits u).length = 1 + Lib.nDigits u := by rw [List.length_append, hl]; rfl
    rw [List.take_left' hA]
    rfl
end

section
set_option linter.unusedVariables false
set_option linter.unusedSimpArgs false

/- A digit of sixteen; the numeral. -/
def HJ (d : Nat) : UInt8 := if d < 10 then UInt8.ofNat (48 + d) else UInt8.ofNat (87 + d)
def Ed (u : Nat) : List UInt8 := if h : u < 16 then [HJ u] else Ed (u / 16) ++ [HJ (u % 16)]
termination_by u
decreasing_by omega
theorem NJ : DQ (IntKind.wrap .u64 16) = some 4 := by decide +kernel
theorem p16 : Dx 16 = some true := by decide +kernel
theorem G8 {x : Int} (h : 0 ≤ x ∧ x < 18446744073709551616) : IntKind.wrap .u64 x = x := by rw [IntKind.wrap_u64]; omega
theorem Nr (x : Nat) (hx : x < 18446744073709551616) : bits .and .u64 (x : Int) 15 = ((x % 16 : Nat) : Int) := by
  have := bits_mask .u64 64 (by decide) (fun n h0 h1 => G8 ⟨h0, by omega⟩) 4 (by omega) (x : Int) (by omega) (by omega)
  simpa using this
theorem KP : ∀ n : Fin 16, Dn ((([48, 49, 50, 51, 52, 53, 54, 55, 56, 57, 97, 98, 99, 100, 101, 102, 103, 104, 105, 106, 107, 108, 109, 110, 111, 112, 113, 114, 115, 116, 117, 118, 119, 120, 121, 122] : List UInt8).getD n.val 0).toNat : Int) = HJ n.val := by decide +kernel
theorem drop_set (l : List UInt8) (i : Nat) (x : UInt8) (h : i < l.length) : (l.set i x).drop i = x :: l.drop (i + 1) := by
  rw [List.drop_set, if_neg (by omega), Nat.sub_self, List.drop_eq_getElem_cons h]
  rfl
theorem FR {v : Nat} (h : ¬ v < 16) : Ed v = Ed (v / 16) ++ [HJ (v % 16)] := by rw [Ed, dif_neg h]
theorem Ff {v : Nat} (h : v < 16) : Ed v = [HJ v] := by rw [Ed, dif_pos h]
theorem MA (u : Nat) (h : u < 18446744073709551616) : AO [] (u : Int) 16 false false = some ([], Ed u) := by
  unfold AO
  rw [if_neg (by decide), if_neg (by decide), decide_eq_false (show ¬ (36 : Int) < 16 by decide)]
  unfold AO.j1
  rw [if_neg (by decide), if_neg (by decide)]
  unfold AO.j2
  refine AL p16 ?_
  rw [if_pos rfl]
  refine AL NJ ?_
  have hw : IntKind.wrap .u64 16 = 16 := rfl
  obtain ⟨c, h1, h2⟩ := FX (body := fun s : Int × Int × (List UInt8) => AO.b1 16 4 s.1 s.2.1 s.2.2)
    (fun s => ∃ (v n : Nat) (l : List UInt8), s = ((v : Int), (n : Int), l) ∧ l.length = 65 ∧ 49 < n ∧ n ≤ 65 ∧ v < 16 ^ (n - 49) ∧ v ≤ u ∧ Ed u = Ed v ++ l.drop n)
    (fun c => match c with | .next s => ∃ (v n : Nat) (l : List UInt8), s = ((v : Int), (n : Int), l) ∧ l.length = 65 ∧ 49 < n ∧ n ≤ 65 ∧ v < 16 ∧ Ed u = Ed v ++ l.drop n | .ret _ => False) (fun s => s.1.toNat / 16)
    (fun s ⟨v, n, l, hs, hl, n1, n2, hv, hvu, hx⟩ => by
      subst hs
      by_cases q : 16 ≤ v
      · have hn : 50 < n := by
          apply Classical.byContradiction
          intro w
          have : n - 49 = 1 := by omega
          rw [this] at hv
          omega
        have ed : Dn ((([48, 49, 50, 51, 52, 53, 54, 55, 56, 57, 97, 98, 99, 100, 101, 102, 103, 104, 105, 106, 107, 108, 109, 110, 111, 112, 113, 114, 115, 116, 117, 118, 119, 120, 121, 122] : List UInt8).getD ((v % 16 : Nat) : Int).toNat 0).toNat : Int) = HJ (v % 16) := KP ⟨v % 16, Nat.mod_lt _ (by omega)⟩
        refine .inl ⟨(((v / 16 : Nat) : Int), ((n - 1 : Nat) : Int), l.set (n - 1) (HJ (v % 16))), ?_, ⟨v / 16, n - 1, _, rfl, by simp [hl], by omega, by omega, ?_, by omega, ?_⟩, by show ((v / 16 : Nat) : Int).toNat / 16 < ((v : Nat) : Int).toNat / 16; omega⟩
        · show AO.b1 16 4 (v : Int) (n : Int) l = _
          unfold AO.b1
          rw [hw, if_pos (decide_eq_true (by omega)), show IntKind.wrap .u64 ((16 : Int) - 1) = 15 from rfl, Nr v (by omega), if_pos ⟨by omega, by show ((v % 16 : Nat) : Int) < 36; omega⟩, ed, FB (x := (n : Int) - 1) (by omega), if_pos (by omega), show ((n : Int) - 1) = ((n - 1 : Nat) : Int) by omega, show ((n - 1 : Nat) : Int).toNat = n - 1 by omega, show IntKind.wrap .u64 4 = 4 from rfl, show shr .u64 (v : Int) 4 = ((v / 2 ^ 4 : Nat) : Int) from H6 v 4 (by omega)]
        · have e : n - 49 = (n - 1 - 49) + 1 := by omega
          rw [e, Nat.pow_succ] at hv
          exact Nat.div_lt_of_lt_mul (by rw [Nat.mul_comm]; exact hv)
        · rw [hx, FR (by omega), drop_set l (n - 1) _ (by omega), show n - 1 + 1 = n by omega, List.append_assoc]
          rfl
      · refine .inr (.inl ⟨((v : Int), (n : Int), l), ?_, v, n, l, rfl, hl, n1, n2, by omega, hx⟩)
        show AO.b1 16 4 (v : Int) (n : Int) l = _
        unfold AO.b1
        rw [hw, if_neg (by rw [decide_eq_false (by omega)]; decide)]) (((u : Int) - (IntKind.wrap .u64 16) : Int).toNat + 2) ((u : Int), 65, List.replicate 65 0) ⟨u, 65, _, rfl, by simp, by omega, by omega, by simpa using h, Nat.le_refl _, by simp⟩ (by rw [hw]; show ((u : Nat) : Int).toNat / 16 < ((u : Int) - 16).toNat + 2; omega)
  cases c with
  | ret _ => exact h2.elim
  | next s =>
    obtain ⟨v, n, l, hs, hl, n1, n2, hv, hx⟩ := h2
    subst hs
    refine CC h1 ?_
    have ed : Dn ((([48, 49, 50, 51, 52, 53, 54, 55, 56, 57, 97, 98, 99, 100, 101, 102, 103, 104, 105, 106, 107, 108, 109, 110, 111, 112, 113, 114, 115, 116, 117, 118, 119, 120, 121, 122] : List UInt8).getD ((v : Nat) : Int).toNat 0).toNat : Int) = HJ v := KP ⟨v, hv⟩
    show (if _ then (if _ then _ else _) else _) = _
    rw [if_pos ⟨by omega, by show (v : Int) < 36; omega⟩, FB (by omega), if_pos (by omega), ed, show ((n : Int) - 1) = ((n - 1 : Nat) : Int) by omega, show ((n - 1 : Nat) : Int).toNat = n - 1 by omega]
    unfold AO.j3
    rw [if_neg (by decide)]
    unfold AO.j4
    rw [if_neg (by decide), if_pos ⟨by omega, by omega, by decide, by decide⟩, show ((n - 1 : Nat) : Int).toNat = n - 1 by omega, show (65 : Int).toNat = 65 from rfl, List.take_of_length_le (by simp [hl]), drop_set l (n - 1) _ (by omega), show n - 1 + 1 = n by omega, hx, Ff hv]
    rfl
theorem LY (u : Nat) (h : u < 18446744073709551616) : Ch (u : Int) 16 = some (Ed u) := by
  refine AL (x := Ed u) ?_ rfl
  unfold C3
  rw [if_neg (by decide)]
  exact AL (MA u h) rfl
end

section
set_option linter.unusedVariables false
set_option linter.unusedSimpArgs false

/- The number of the rune that a text begins with; the numbers of all; a number's text; a quoted text. -/
def JY (l : List UInt8) : Nat := if (Lib.decodeL l).1 = 65533 ∧ (Lib.decodeL l).2 = 1 then (l.getD 0 0).toNat + 2000000 else (Lib.decodeL l).1
def DG (l : List UInt8) : List Nat := if h : l = [] then [] else JY l :: DG (l.drop (Lib.decodeL l).2)
termination_by l.length
decreasing_by
  have h1 := Lib.decodeL_width l
  have h2 : 0 < l.length := List.length_pos_iff.2 h
  rw [List.length_drop]
  omega
def EL (n : Nat) : List UInt8 :=
  if n = 34 ∨ n = 92 then [92, UInt8.ofNat n] else if 32 ≤ n ∧ n ≤ 126 then [UInt8.ofNat n] else if 2000000 ≤ n then [92, 120] ++ Ed (n - 2000000) ++ [59] else [92, 117] ++ Ed n ++ [59]
def ID (l : List UInt8) : List UInt8 := [34] ++ (DG l).flatMap EL ++ [34]
theorem GG : DG [] = [] := by rw [DG, dif_pos rfl]
theorem FW {l : List UInt8} (h : l ≠ []) : DG l = JY l :: DG (l.drop (Lib.decodeL l).2) := by rw [DG, dif_neg h]
/- Plain bytes. -/
abbrev GB (b : UInt8) : Prop := 32 ≤ b.toNat ∧ b.toNat ≤ 126
theorem Io : ∀ n : Fin 16, 32 ≤ (HJ n.val).toNat ∧ (HJ n.val).toNat ≤ 126 := by decide +kernel
theorem Ip : ∀ (k n : Nat), n < k → ∀ b ∈ Ed n, GB b
  | 0, n, h => by omega
  | k + 1, n, h => by
    by_cases q : n < 16
    · rw [Ff q]
      intro b hb
      rw [List.mem_singleton.1 hb]
      exact Io ⟨n, q⟩
    · rw [FR q]
      intro b hb
      rcases List.mem_append.1 hb with hb | hb
      · exact Ip k (n / 16) (by omega) b hb
      · rw [List.mem_singleton.1 hb]
        exact Io ⟨n % 16, Nat.mod_lt _ (by omega)⟩
theorem EC : ∀ (k n : Nat), n < 16 ^ (k + 1) → (Ed n).length ≤ k + 1
  | 0, n, h => by rw [Ff (by simpa using h)]; exact Nat.le_refl _
  | k + 1, n, h => by
    by_cases q : n < 16
    · rw [Ff q]; show 1 ≤ k + 1 + 1; omega
    · rw [FR q, List.length_append]
      have := EC k (n / 16) (Nat.div_lt_of_lt_mul (by rw [Nat.mul_comm, ← Nat.pow_succ]; exact h))
      show (Ed (n / 16)).length + 1 ≤ k + 1 + 1
      omega
theorem Ie {n : Nat} (h : 32 ≤ n ∧ n ≤ 126) : GB (UInt8.ofNat n) := by
  show 32 ≤ (UInt8.ofNat n).toNat ∧ (UInt8.ofNat n).toNat ≤ 126
  rw [UInt8.toNat_ofNat']
  omega
theorem Mw (n : Nat) : ∀ b ∈ EL n, GB b := by
  have h92 : GB 92 := by decide
  have h59 : GB 59 := by decide
  have h117 : GB 117 := by decide
  have h120 : GB 120 := by decide
  have three : ∀ (x : UInt8) (l : List UInt8), GB x → (∀ b ∈ l, GB b) → ∀ b ∈ [92, x] ++ l ++ [59], GB b := by
    intro x l hx hl b hb
    rcases List.mem_append.1 hb with hb | hb
    · rcases List.mem_append.1 hb with hb | hb
      · rcases List.mem_cons.1 hb with rfl | hb
        · exact h92
        · rw [List.mem_singleton.1 hb]; exact hx
      · exact hl b hb
    · rw [List.mem_singleton.1 hb]; exact h59
  unfold EL
  by_cases q : n = 34 ∨ n = 92
  · rw [if_pos q]
    intro b hb
    rcases List.mem_cons.1 hb with rfl | hb
    · exact h92
    · rw [List.mem_singleton.1 hb]; exact Ie (by omega)
  · rw [if_neg q]
    by_cases q2 : 32 ≤ n ∧ n ≤ 126
    · rw [if_pos q2]
      intro b hb
      rw [List.mem_singleton.1 hb]
      exact Ie q2
    · rw [if_neg q2]
      by_cases q3 : 2000000 ≤ n
      · rw [if_pos q3]; exact three 120 _ h120 (Ip _ _ (Nat.lt_succ_self _))
      · rw [if_neg q3]; exact three 117 _ h117 (Ip _ _ (Nat.lt_succ_self _))
theorem Kx (l : List UInt8) : ∀ b ∈ ID l, GB b := by
  have h34 : GB 34 := by decide
  intro b hb
  rcases List.mem_append.1 hb with hb | hb
  · rcases List.mem_append.1 hb with hb | hb
    · rw [List.mem_singleton.1 hb]; exact h34
    · obtain ⟨n, _, hn⟩ := List.mem_flatMap.1 hb
      exact Mw n b hn
  · rw [List.mem_singleton.1 hb]; exact h34
theorem Kv (l : List UInt8) : JY l < 2000256 := by
  unfold JY
  have h1 := Lib.decodeL_rune l
  have h2 := (l.getD 0 0).toNat_lt
  split <;> omega
theorem JN (n : Nat) (h : n < 2000256) : (EL n).length ≤ 9 := by
  unfold EL
  split
  · show 2 ≤ 9; omega
  · split
    · show 1 ≤ 9; omega
    · split
      · have := EC 5 (n - 2000000) (by omega)
        simp only [List.length_append, List.length_cons, List.length_nil]; omega
      · have := EC 5 n (by omega)
        simp only [List.length_append, List.length_cons, List.length_nil]; omega
theorem GH : ∀ (k : Nat) (l : List UInt8), l.length ≤ k → ((DG l).flatMap EL).length ≤ 9 * l.length
  | k, [], _ => by rw [GG]; exact Nat.zero_le _
  | 0, a :: t, h => by simp at h
  | k + 1, a :: t, h => by
    have hne : a :: t ≠ [] := List.cons_ne_nil _ _
    have h1 := Lib.decodeL_width (a :: t)
    have h2 := JN _ (Kv (a :: t))
    rw [FW hne, List.flatMap_cons, List.length_append]
    have h3 := GH k ((a :: t).drop (Lib.decodeL (a :: t)).2) (by rw [List.length_drop]; omega)
    rw [List.length_drop] at h3
    have h4 : 0 < (a :: t).length := by simp
    omega
theorem EH (l : List UInt8) : (ID l).length ≤ 9 * l.length + 2 := by
  have := GH _ l (Nat.le_refl _)
  unfold ID
  simp only [List.length_append, List.length_cons, List.length_nil]
  omega

/- The program's writers. -/
theorem Iy (b : List UInt8) (n : Nat) (h : b.length < 140737488355328) : BI ⟨b⟩ (n : Int) = some (Value.nilIface, ⟨b ++ [UInt8.ofNat n]⟩) := by
  unfold BI
  rw [if_pos ⟨by show b.length + 1 ≤ Bw; unfold Bw; omega, by show (b.length + 1) * 1 ≤ _; omega⟩]
  rfl
theorem LO (b a : List UInt8) (h : b.length + a.length ≤ 140737488355328) : B2 ⟨b⟩ a = some ((a.length : Int), Value.nilIface, ⟨b ++ a⟩) := by
  unfold B2
  rw [if_pos ⟨by show b.length + a.length ≤ Bw; unfold Bw; omega, by show (b.length + a.length) * 1 ≤ _; omega⟩]
theorem LP (b : List UInt8) (n : Nat) (hn : n ≤ 126) (h : b.length < 140737488355328) : ∃ x, CE ⟨b⟩ (n : Int) = some (x, Value.nilIface, ⟨b ++ [UInt8.ofNat n]⟩) := by
  have e1 : IntKind.wrap .u32 (n : Int) = (n : Int) := by rw [IntKind.wrap_u32]; omega
  have e2 : IntKind.wrap .u8 (n : Int) = (n : Int) := by rw [IntKind.wrap_u8]; omega
  refine ⟨_, AL (x := b ++ [UInt8.ofNat n]) ?_ rfl⟩
  unfold D9
  rw [e1, e2, if_pos (decide_eq_true (by omega)), if_pos ⟨by show b.length + 1 ≤ Bw; unfold Bw; omega, by show (b.length + 1) * 1 ≤ _; omega⟩]
  rfl
theorem LU (s : List UInt8) (p : Nat) : ER s p = ((Lib.decodeL (s.drop p)).1 : Int) := by
  unfold ER
  rw [show Lib.decodeL (s.drop p) = Utf8.decode ⟨s.toArray⟩ p from Lib.decodeL_drop ⟨s.toArray⟩ p]
theorem LS (s : List UInt8) (p : Nat) (h : p < s.length) : EN s p = p + (Lib.decodeL (s.drop p)).2 := by
  unfold EN
  rw [if_pos h, show Lib.decodeL (s.drop p) = Utf8.decode ⟨s.toArray⟩ p from Lib.decodeL_drop ⟨s.toArray⟩ p]
theorem M9 (l : List UInt8) (h : l ≠ []) : MI l = ((Lib.decodeL l).2 : Int) := by
  unfold MI Lib.decodeGo
  rw [if_neg (by
    have := List.length_pos_iff.2 h
    show ¬ l.toArray.size = 0
    simp only [List.size_toArray]
    omega)]
  rfl
theorem Kc (s : List UInt8) (p : Nat) (h : p < s.length) : EB s (p : Int) (ER s p) = some (decide ((Lib.decodeL (s.drop p)).1 = 65533 ∧ (Lib.decodeL (s.drop p)).2 = 1)) := by
  have hne : s.drop p ≠ [] := by
    intro h0
    have := congrArg List.length h0
    rw [List.length_drop] at this
    simp at this
    omega
  unfold EB
  rw [LU]
  by_cases q : (Lib.decodeL (s.drop p)).1 = 65533
  · rw [if_neg (by rw [decide_eq_true (by omega)]; decide), if_pos (by omega), show ((s.length : Nat) : Int).toNat = s.length by omega, show ((p : Nat) : Int).toNat = p by omega, List.take_length, M9 _ hne]
    congr 1
    by_cases w : (Lib.decodeL (s.drop p)).2 = 1
    · rw [decide_eq_true (by omega), decide_eq_true ⟨q, w⟩]
    · rw [decide_eq_false (by omega), decide_eq_false (fun z => w z.2)]
  · rw [if_pos (by rw [decide_eq_false (by omega)]; decide), decide_eq_false (fun z => q z.1)]
theorem Mk (s b : List UInt8) (p : Nat) (hp : p < s.length) (hb : b.length + (EL (JY (s.drop p))).length ≤ 140737488355328) : Bq.b1 s ⟨b⟩ p = some (.cont (⟨b ++ EL (JY (s.drop p))⟩, EN s p)) := by
  have hr := Lib.decodeL_rune (s.drop p)
  have hbr := Kc s p hp
  have hn := LU s p
  have h0 : (s.getD p 0).toNat < 256 := (s.getD p 0).toNat_lt
  have hd : (s.drop p).getD 0 0 = s.getD p 0 := by simp [List.getD, List.getElem?_drop]
  have hR : JY (s.drop p) = if (Lib.decodeL (s.drop p)).1 = 65533 ∧ (Lib.decodeL (s.drop p)).2 = 1 then (s.getD p 0).toNat + 2000000 else (Lib.decodeL (s.drop p)).1 := by rw [← hd]; rfl
  generalize JY (s.drop p) = R at hb hR ⊢
  generalize (Lib.decodeL (s.drop p)).1 = r at hr hbr hR hn
  generalize (Lib.decodeL (s.drop p)).2 = w at hbr hR
  have quoted : (r = 34 ∨ r = 92) → Bq.j1 s ⟨b⟩ p true = some (.cont (⟨b ++ EL R⟩, EN s p)) := by
    intro e2
    rw [if_neg (by omega)] at hR
    have e3 : EL R = [92, UInt8.ofNat r] := by unfold EL; rw [if_pos (by omega), hR]
    rw [e3] at hb ⊢
    have hb : b.length + 2 ≤ 140737488355328 := hb
    obtain ⟨x, hx⟩ := LP (b ++ [92]) r (by omega) (by rw [List.length_append]; show b.length + 1 < _; omega)
    unfold Bq.j1
    rw [if_pos rfl, hn]
    refine AL (Iy b 92 (by omega)) (AL hx ?_)
    rw [List.append_assoc]
    rfl
  have plainly : 32 ≤ r ∧ r ≤ 126 → ¬ (r = 34 ∨ r = 92) → Bq.j3 s ⟨b⟩ p true = some (.cont (⟨b ++ EL R⟩, EN s p)) := by
    intro e1 e2
    rw [if_neg (by omega)] at hR
    have e3 : EL R = [UInt8.ofNat r] := by unfold EL; rw [if_neg (by omega), if_pos (by omega), hR]
    rw [e3] at hb ⊢
    have hb : b.length + 1 ≤ 140737488355328 := hb
    obtain ⟨x, hx⟩ := LP b r (by omega) (by omega)
    unfold Bq.j3
    rw [if_pos rfl, hn]
    exact AL hx rfl
  have told : ¬ (32 ≤ r ∧ r ≤ 126) → Bq.j3 s ⟨b⟩ p false = some (.cont (⟨b ++ EL R⟩, EN s p)) := by
    intro e1
    unfold Bq.j3
    rw [if_neg (by decide)]
    refine AL hbr ?_
    by_cases q : r = 65533 ∧ w = 1
    · rw [if_pos q] at hR
      have e3 : EL R = [92, 120] ++ Ed (s.getD p 0).toNat ++ [59] := by unfold EL; rw [if_neg (by omega), if_neg (by omega), if_pos (by omega), hR, Nat.add_sub_cancel]
      rw [e3] at hb ⊢
      have hl := EC 1 (s.getD p 0).toNat (by omega)
      have ew : IntKind.wrap .u64 (((s.getD p 0).toNat : Nat) : Int) = (((s.getD p 0).toNat : Nat) : Int) := G8 (by omega)
      rw [decide_eq_true q, if_pos rfl, if_pos (by omega), show ((p : Nat) : Int).toNat = p by omega, ew]
      refine AL (LY _ (by omega)) ?_
      rw [if_pos (by show 2 + (Ed (s.getD p 0).toNat).length ≤ Bw; unfold Bw; omega), if_pos (by rw [List.length_append]; show 2 + (Ed (s.getD p 0).toNat).length + 1 ≤ Bw; unfold Bw; omega)]
      exact AL (LO b _ hb) rfl
    · rw [if_neg q] at hR
      have e3 : EL R = [92, 117] ++ Ed r ++ [59] := by unfold EL; rw [if_neg (by omega), if_neg (by omega), if_neg (by omega), hR]
      rw [e3] at hb ⊢
      have hl := EC 5 r (by omega)
      have ew : IntKind.wrap .u64 (r : Int) = (r : Int) := G8 (by omega)
      rw [decide_eq_false q, if_neg (by decide), hn, ew]
      refine AL (LY _ (by omega)) ?_
      rw [if_pos (by show 2 + (Ed r).length ≤ Bw; unfold Bw; omega), if_pos (by rw [List.length_append]; show 2 + (Ed r).length + 1 ≤ Bw; unfold Bw; omega)]
      exact AL (LO b _ hb) rfl
  unfold Bq.b1
  rw [if_pos (decide_eq_true hp), if_pos hp, hn]
  by_cases q1 : r = 34
  · rw [if_pos (decide_eq_true (by omega))]; exact quoted (.inl q1)
  · rw [if_neg (by rw [decide_eq_false (by omega)]; decide)]
    by_cases q2 : r = 92
    · rw [decide_eq_true (by omega)]; exact quoted (.inr q2)
    · rw [decide_eq_false (by omega)]
      unfold Bq.j1
      rw [if_neg (by decide), hn]
      by_cases q3 : 32 ≤ r
      · rw [if_pos (decide_eq_true (by omega))]
        by_cases q4 : r ≤ 126
        · rw [decide_eq_true (by omega)]; exact plainly ⟨q3, q4⟩ (by omega)
        · rw [decide_eq_false (by omega)]; exact told (by omega)
      · rw [if_neg (by rw [decide_eq_false (by omega)]; decide)]; exact told (by omega)
theorem FN (s : List UInt8) (h : s.length ≤ 100000) : Bq s = some (ID s) := by
  have hl := EH s
  unfold Bq
  refine AL (Iy [] 34 (by simp)) ?_
  obtain ⟨c, h1, h2⟩ := FX (body := fun s' : C2 × Nat => Bq.b1 s s'.1 s'.2)
    (fun s' => s'.1.Ca ++ (DG (s.drop s'.2)).flatMap EL = [34] ++ (DG s).flatMap EL)
    (fun c => match c with | .next s' => s'.1.Ca = [34] ++ (DG s).flatMap EL | .ret _ => False) (fun s' => s.length - s'.2)
    (fun s' hi => by
      obtain ⟨⟨b⟩, p⟩ := s'
      have hi : b ++ (DG (s.drop p)).flatMap EL = [34] ++ (DG s).flatMap EL := hi
      by_cases hp : p < s.length
      · have hne : s.drop p ≠ [] := by
          intro h0
          have := congrArg List.length h0
          rw [List.length_drop] at this
          simp at this
          omega
        rw [FW hne, List.flatMap_cons] at hi
        have hlen := congrArg List.length hi
        have hnl := GH _ s (Nat.le_refl _)
        simp only [List.length_append, List.length_cons, List.length_nil] at hlen
        have hw := Lib.decodeL_width (s.drop p)
        refine .inl ⟨_, Mk s b p hp (by omega), ?_, by show s.length - EN s p < s.length - p; rw [LS s p hp]; omega⟩
        show (b ++ EL (JY (s.drop p))) ++ (DG (s.drop (EN s p))).flatMap EL = _
        rw [LS s p hp, List.append_assoc, ← hi, List.drop_drop]
      · refine .inr (.inl ⟨(⟨b⟩, EN s p), ?_, ?_⟩)
        · show Bq.b1 s ⟨b⟩ p = _
          unfold Bq.b1
          rw [if_neg (by rw [decide_eq_false hp]; decide)]
        · rw [List.drop_eq_nil_of_le (by omega), GG] at hi
          show b = _
          rw [← hi]
          simp) (s.length + 2) (⟨[34]⟩, 0) (by show [34] ++ (DG (s.drop 0)).flatMap EL = _; rfl) (by show s.length - 0 < s.length + 2; omega)
  cases c with
  | ret _ => exact h2.elim
  | next s' =>
    obtain ⟨⟨b⟩, p⟩ := s'
    have h2 : b = [34] ++ (DG s).flatMap EL := h2
    subst h2
    refine CC h1 ?_
    have hnl := GH _ s (Nat.le_refl _)
    refine AL (Iy _ 34 (by simp only [List.length_append, List.length_cons, List.length_nil]; omega)) (AL (x := ID s) ?_ rfl)
    unfold Cy
    rw [if_pos (by simp)]
    rfl
end

section
set_option linter.unusedVariables false
set_option linter.unusedSimpArgs false

/- A loop that goes on from state to state. -/
theorem E5 {R S : Type} {body : S → Option (Ds R S)} (st : Nat → S) (n : Nat) (h : ∀ i, i < n → body (st i) = some (.cont (st (i + 1)))) (z : S) (e : body (st n) = some (.brk z)) :
    ∀ (m i k : Nat), i + m = n → m < k → Cs body k (st i) = some (.next z)
  | _, _, 0, _, hk => by omega
  | 0, i, k + 1, hi, hk => by
    have : i = n := by omega
    subst this
    unfold Cs
    rw [e]
  | m + 1, i, k + 1, hi, hk => by
    unfold Cs
    rw [h i (by omega)]
    exact E5 st n h z e m (i + 1) k (by omega) (by omega)
/- A loop that looks at each place, and may end at one. -/
theorem Gr {R : Type} {body : Int → Option (Ds R Int)} (n : Nat) (p : Nat → Bool) (r : R) (h : ∀ i, i < n → body (i : Int) = if p i = true then some (.ret r) else some (.cont ((i + 1 : Nat) : Int))) (e : body (n : Int) = some (.brk (n : Int))) :
    ∀ (m i k : Nat), i + m = n → m < k → (∃ j, j < n ∧ p j = true ∧ Cs body k (i : Int) = some (.ret r)) ∨ ((∀ j, i ≤ j → j < n → p j = false) ∧ Cs body k (i : Int) = some (.next (n : Int)))
  | _, _, 0, _, hk => by omega
  | 0, i, k + 1, hi, hk => by
    have : i = n := by omega
    subst this
    refine .inr ⟨fun j h1 h2 => by omega, ?_⟩
    unfold Cs
    rw [e]
  | m + 1, i, k + 1, hi, hk => by
    by_cases q : p i = true
    · refine .inl ⟨i, by omega, q, ?_⟩
      unfold Cs
      rw [h i (by omega), if_pos q]
    · have hb := h i (by omega)
      rw [if_neg q] at hb
      rcases Gr n p r h e m (i + 1) k (by omega) (by omega) with ⟨j, h1, h2, h3⟩ | ⟨h1, h2⟩
      · refine .inl ⟨j, h1, h2, ?_⟩
        unfold Cs
        rw [hb]
        exact h3
      · refine .inr ⟨fun j g1 g2 => ?_, ?_⟩
        · by_cases w : j = i
          · rw [w]; simpa using q
          · exact h1 j (by omega) g2
        · unfold Cs
          rw [hb]
          exact h2
theorem Gm {α β : Type} [Inhabited α] (l : List α) (f : α → List β) (i : Nat) (h : i < l.length) : (l.take (i + 1)).flatMap f = (l.take i).flatMap f ++ f (l.getD i default) := by
  have e : l.getD i default = l[i] := by simp [List.getD, h]
  rw [List.take_add_one, List.getElem?_eq_getElem h, List.flatMap_append, e]
  simp
theorem KU {α β : Type} {l : List α} {f : α → List β} {K : Nat} (h : ∀ x ∈ l, (f x).length ≤ K) : (l.flatMap f).length ≤ K * l.length := by
  induction l with
  | nil => simp
  | cons a t ih =>
    rw [List.flatMap_cons, List.length_append, List.length_cons, Nat.mul_succ]
    have := h a List.mem_cons_self
    have := ih fun x hx => h x (List.mem_cons_of_mem _ hx)
    omega
theorem Hs {α β : Type} {l : List α} {f : α → List β} {K : Nat} (h : ∀ x ∈ l, (f x).length ≤ K) (i : Nat) : ((l.take i).flatMap f).length ≤ K * l.length := by
  have h1 := KU (l := l.take i) (f := f) (K := K) (fun x hx => h x (List.mem_of_mem_take hx))
  have h2 : (l.take i).length ≤ l.length := by rw [List.length_take]; omega
  exact Nat.le_trans h1 (Nat.mul_le_mul_left K h2)
theorem get_mem {α : Type} [Inhabited α] {l : List α} {i : Nat} (h : i < l.length) : l.getD i default ∈ l := by
  have e : l.getD i default = l[i] := by simp [List.getD, h]
  rw [e]; exact List.getElem_mem h

/- A number's text. -/
def tx (x : Int) : List UInt8 := Lib.decDigits x.toNat
theorem D0 {x : Int} (h : Db .u64 x) : 0 ≤ x ∧ x < 18446744073709551616 := by
  simp only [Db, IntKind.min, IntKind.max, IntKind.bits, IntKind.signed] at h
  simp at h
  omega
theorem G1 {x : Int} (h : Db .u32 x) : 0 ≤ x ∧ x < 4294967296 := by
  simp only [Db, IntKind.min, IntKind.max, IntKind.bits, IntKind.signed] at h
  simp at h
  omega
theorem Fx {x : Int} (h : 0 ≤ x ∧ x < 18446744073709551616) : Cg x = some (tx x) := by
  have e := Ls x.toNat (by omega)
  rwa [show ((x.toNat : Nat) : Int) = x by omega] at e
theorem or_eq {x : Int} (h : 0 ≤ x ∧ x < 18446744073709551616) : Dj x = some (tx x) := by
  unfold Dj
  rw [G8 h]
  exact AL (Fx h) rfl
theorem IV (n : Nat) (h : n < 9223372036854775808) : Dz (n : Int) = some (tx (n : Int)) := AL (LA n h) (by unfold tx; rw [show ((n : Nat) : Int).toNat = n by omega])
theorem Dd {x : Int} (h : x < 18446744073709551616) : (tx x).length ≤ 20 := by
  unfold tx
  rw [Lib.decDigits_length]
  exact Lib.nDigits_le20 _ (by omega)
theorem K2 : ∀ (k n : Nat), n < k → ∀ b ∈ Lib.decDigits n, GB b
  | 0, n, h => by omega
  | k + 1, n, h => by
    by_cases q : n < 10
    · rw [Hm q]
      intro b hb
      rw [List.mem_singleton.1 hb]
      exact Ie (by omega)
    · have e : Lib.decDigits n = Lib.decDigits (n / 10) ++ [UInt8.ofNat (48 + n % 10)] := by rw [Lib.decDigits, dif_neg q]
      rw [e]
      intro b hb
      rcases List.mem_append.1 hb with hb | hb
      · exact K2 k (n / 10) (by omega) b hb
      · rw [List.mem_singleton.1 hb]
        exact Ie (by omega)
theorem LQ (x : Int) : ∀ b ∈ tx x, GB b := K2 _ _ (Nat.lt_succ_self _)

/- A digest's text. -/
def JK (b : UInt8) : List UInt8 := [HJ (b.toNat / 16), HJ (b.toNat % 16)]
def Lk (d : List UInt8) : List UInt8 := d.flatMap JK
def JX (d : List UInt8) : List UInt8 := (Lk d).take 8
theorem IP : ∀ n : Fin 16, UInt8.ofNat (([48, 49, 50, 51, 52, 53, 54, 55, 56, 57, 97, 98, 99, 100, 101, 102] : List UInt8).getD n.val 0).toNat = HJ n.val := by decide +kernel
theorem Me (a : Nat) : shr .u8 (a : Int) 4 = ((a / 16 : Nat) : Int) := by
  unfold shr
  have e : min (4 : Int).toNat IntKind.u8.bits = 4 := rfl
  have e2 : ((2 : Int) ^ 4) = ((16 : Nat) : Int) := by simp
  rw [e, e2, Int.fdiv_eq_ediv_of_nonneg _ (Int.natCast_nonneg _)]
  exact (Int.natCast_ediv a 16).symm
theorem MD (x : Nat) (hx : x < 256) : bits .and .u8 (x : Int) 15 = ((x % 16 : Nat) : Int) := by
  have := bits_mask .u8 8 (by decide) (fun n h0 h1 => by rw [IntKind.wrap_u8]; omega) 4 (by omega) (x : Int) (by omega) (by omega)
  simpa using this
theorem H7 (d : List UInt8) : (Lk d).length = 2 * d.length := by
  unfold Lk
  induction d with
  | nil => rfl
  | cons a t ih => rw [List.flatMap_cons, List.length_append, ih, List.length_cons]; show 2 + _ = _; omega
theorem Mr (a : UInt8) : ∀ b ∈ JK a, GB b := by
  intro b hb
  have := a.toNat_lt
  rcases List.mem_cons.1 hb with rfl | hb
  · exact Io ⟨a.toNat / 16, by omega⟩
  · rw [List.mem_singleton.1 hb]; exact Io ⟨a.toNat % 16, Nat.mod_lt _ (by omega)⟩
theorem Mh (d : List UInt8) : ∀ b ∈ JX d, GB b := by
  intro b hb
  obtain ⟨a, _, ha⟩ := List.mem_flatMap.1 (List.mem_of_mem_take hb)
  exact Mr a b ha
theorem H8 (d : List UInt8) : (JX d).length ≤ 8 := by unfold JX; rw [List.length_take]; omega
theorem Kr (d b : List UInt8) (i : Nat) (hi : i < 32) (hb : b.length + 2 ≤ 140737488355328) : Dy.b1 d (i : Int) ⟨b⟩ = some (.cont (((i + 1 : Nat) : Int), ⟨b ++ JK (d.getD i 0)⟩)) := by
  unfold Dy.b1
  have ha := (d.getD i 0).toNat_lt
  rw [if_pos (decide_eq_true (by omega)), if_pos (by omega), show ((i : Nat) : Int).toNat = i by omega]
  have h1 : UInt8.ofNat (([48, 49, 50, 51, 52, 53, 54, 55, 56, 57, 97, 98, 99, 100, 101, 102] : List UInt8).getD ((d.getD i 0).toNat / 16) 0).toNat = HJ ((d.getD i 0).toNat / 16) := IP ⟨(d.getD i 0).toNat / 16, by omega⟩
  have h2 : UInt8.ofNat (([48, 49, 50, 51, 52, 53, 54, 55, 56, 57, 97, 98, 99, 100, 101, 102] : List UInt8).getD ((d.getD i 0).toNat % 16) 0).toNat = HJ ((d.getD i 0).toNat % 16) := IP ⟨(d.getD i 0).toNat % 16, Nat.mod_lt _ (by omega)⟩
  rw [Me, MD _ ha, show (((d.getD i 0).toNat / 16 : Nat) : Int).toNat = (d.getD i 0).toNat / 16 by omega, show (((d.getD i 0).toNat % 16 : Nat) : Int).toNat = (d.getD i 0).toNat % 16 by omega,
    if_pos ⟨by omega, by show (((d.getD i 0).toNat / 16 : Nat) : Int) < 16; omega⟩]
  refine AL (Iy b _ (by omega)) ?_
  rw [if_pos ⟨by omega, by show (((d.getD i 0).toNat % 16 : Nat) : Int) < 16; omega⟩]
  refine AL (Iy _ _ (by rw [List.length_append]; show b.length + 1 < _; omega)) ?_
  rw [h1, h2, FB (by omega), List.append_assoc]
  rfl
theorem Kn (d : List UInt8) (hd : d.length = 32) : Dy d = some (Lk d) := by
  have hl : ∀ i, i < 32 → ((d.take i).flatMap JK).length ≤ 2 * d.length := fun i _ => Hs (fun x _ => Nat.le_refl 2) i
  have h := E5 (body := fun s : Int × C2 => Dy.b1 d s.1 s.2) (fun i => ((i : Int), (⟨(d.take i).flatMap JK⟩ : C2))) 32 (fun i hi => by
    have := hl i hi
    show Dy.b1 d (i : Int) ⟨_⟩ = some (.cont (((i + 1 : Nat) : Int), ⟨_⟩))
    rw [Kr d _ i hi (by omega), Gm d JK i (by omega)]
    rfl) (32, ⟨Lk d⟩) (by
    show Dy.b1 d 32 ⟨(d.take 32).flatMap JK⟩ = _
    unfold Dy.b1
    rw [if_neg (by decide), List.take_of_length_le (by omega)]
    rfl) 32 0 ((32 - 0 : Int).toNat + 2) (by omega) (by decide)
  refine CC h (AL (x := Lk d) ?_ rfl)
  unfold Cy
  rw [if_pos (by
    intro h0
    have := H7 d
    rw [show Lk d = [] from h0] at this
    simp at this
    omega)]
theorem Ju (d : List UInt8) (hd : d.length = 32) : Ey d = some (JX d) := by
  refine AL (Kn d hd) ?_
  rw [if_pos (by rw [H7]; omega)]
  rfl

/- A line; how the program says it. -/
def sy (ps : List (List UInt8)) : List UInt8 := Lib.join ps [32] ++ [10]
theorem Mq {ps : List (List UInt8)} {m : Nat} (h : ∀ p ∈ ps, p.length ≤ m) : (Lib.joinTail [32] ps).length ≤ ps.length * (m + 1) := by
  induction ps with
  | nil => simp [Lib.joinTail]
  | cons a t ih =>
    have h1 := ih fun p hp => h p (List.mem_cons_of_mem _ hp)
    have h2 := h a List.mem_cons_self
    have e : Lib.joinTail [32] (a :: t) = ([32] ++ a) ++ Lib.joinTail [32] t := by simp [Lib.joinTail]
    rw [e, List.length_append, List.length_append, List.length_cons, List.length_cons, List.length_nil, Nat.succ_mul]
    omega
theorem Md {ps : List (List UInt8)} {m : Nat} (h : ∀ p ∈ ps, p.length ≤ m) : (sy ps).length ≤ ps.length * (m + 1) + 1 := by
  unfold sy
  rw [List.length_append]
  show _ + 1 ≤ _
  cases ps with
  | nil => simp [Lib.join_nil]
  | cons a t =>
    rw [Lib.join_cons, List.length_append, List.length_cons, Nat.succ_mul]
    have h1 := Mq (ps := t) (m := m) fun p hp => h p (List.mem_cons_of_mem _ hp)
    have h2 := h a List.mem_cons_self
    omega
theorem M1 {ps : List (List UInt8)} (h : ∀ p ∈ ps, ∀ b ∈ p, GB b) : ∀ b ∈ Lib.joinTail [32] ps, GB b := by
  intro b hb
  unfold Lib.joinTail at hb
  obtain ⟨l, hl, hb⟩ := List.mem_flatten.1 hb
  obtain ⟨p, hp, rfl⟩ := List.mem_map.1 hl
  rcases List.mem_append.1 hb with hb | hb
  · rw [List.mem_singleton.1 hb]; decide
  · exact h p hp b hb
theorem M3 {ps : List (List UInt8)} (h : ∀ p ∈ ps, ∀ b ∈ p, GB b) : ∀ b ∈ Lib.join ps [32], GB b := by
  cases ps with
  | nil => intro b hb; cases hb
  | cons a t =>
    rw [Lib.join_cons]
    intro b hb
    rcases List.mem_append.1 hb with hb | hb
    · exact h a List.mem_cons_self b hb
    · exact M1 (fun p hp => h p (List.mem_cons_of_mem _ hp)) b hb
theorem Mg (b : List UInt8) (ps : List (List UInt8)) (h1 : ps.length ≤ 100) (h2 : b.length + (sy ps).length ≤ 140737488355328) : BZ ⟨b⟩ ps = some ⟨b ++ sy ps⟩ := by
  have e : (sy ps).length = (Lib.join ps [32]).length + 1 := by unfold sy; rw [List.length_append]; rfl
  unfold BZ
  rw [if_pos ⟨by omega, by omega⟩, if_pos (by show _ + 1 ≤ Bw; unfold Bw; omega)]
  refine AL (x := (((sy ps).length : Int), Value.nilIface, ⟨b ++ sy ps⟩)) ?_ rfl
  show DB ⟨b⟩ (sy ps) = _
  unfold DB
  rw [if_pos ⟨by show b.length + (sy ps).length ≤ Bw; unfold Bw; omega, by show (b.length + (sy ps).length) * 1 ≤ _; omega⟩]

/- An event's line. -/
def I3 (k : Int) : List UInt8 := if 0 < k ∧ k < 11 then DV.getD k.toNat default else DV.getD 0 default
def Hl (e : Ap) : List UInt8 := (((([101, 118, 101, 110, 116, 32] ++ I3 e.Bv) ++ [32]) ++ ID e.Bb) ++ [32]) ++ tx e.BB
theorem IN : ∀ n : Fin 11, (DV.getD n.val default).length ≤ 10 ∧ ∀ b ∈ DV.getD n.val default, GB b := by decide +kernel
theorem Il (k : Int) : (I3 k).length ≤ 10 ∧ ∀ b ∈ I3 k, GB b := by
  unfold I3
  by_cases q : 0 < k ∧ k < 11
  · rw [if_pos q]; exact IN ⟨k.toNat, by omega⟩
  · rw [if_neg q]; exact IN ⟨0, by omega⟩
theorem IU (e : Ap) (h1 : e.Bb.length ≤ 2000) (h2 : Db .u64 e.BB) : BN e = some (Hl e) := by
  have hk := (Il e.Bv).1
  have hq := EH e.Bb
  have hn := Dd (D0 h2).2
  have key : BN.j2 e (I3 e.Bv) = some (Hl e) := by
    unfold BN.j2
    have lA : ∀ (a b : List UInt8), (a ++ b).length = a.length + b.length := fun a b => List.length_append
    have l6 : ([101, 118, 101, 110, 116, 32] : List UInt8).length = 6 := rfl
    have l1 : ([32] : List UInt8).length = 1 := rfl
    rw [if_pos (by unfold Bw; omega), if_pos (by rw [lA]; unfold Bw; omega)]
    refine AL (FN _ (by omega)) ?_
    rw [if_pos (by rw [lA, lA]; unfold Bw; omega), if_pos (by rw [lA, lA, lA]; unfold Bw; omega)]
    refine AL (Fx (D0 h2)) ?_
    rw [if_pos (by rw [lA, lA, lA, lA]; unfold Bw; omega)]
    rfl
  unfold BN
  by_cases q : 0 < e.Bv
  · rw [if_pos (decide_eq_true q)]
    unfold BN.j1
    by_cases q2 : e.Bv < 11
    · rw [if_pos (decide_eq_true q2), if_pos ⟨by omega, q2⟩]
      have : I3 e.Bv = DV.getD e.Bv.toNat default := by unfold I3; rw [if_pos ⟨q, q2⟩]
      rw [← this]; exact key
    · rw [if_neg (by rw [decide_eq_false q2]; decide)]
      have : I3 e.Bv = DV.getD (0 : Int).toNat default := by unfold I3; rw [if_neg (fun z => q2 z.2)]; rfl
      rw [← this]; exact key
  · rw [if_neg (by rw [decide_eq_false q]; decide)]
    unfold BN.j1
    rw [if_neg (by decide)]
    have : I3 e.Bv = DV.getD (0 : Int).toNat default := by unfold I3; rw [if_neg (fun z => q z.1)]; rfl
    rw [← this]; exact key
theorem JM (e : Ap) (h1 : e.Bb.length ≤ 2000) (h2 : Db .u64 e.BB) : (Hl e).length ≤ 18040 := by
  have hk := (Il e.Bv).1
  have hq := EH e.Bb
  have hn := Dd (D0 h2).2
  unfold Hl
  simp only [List.length_append, List.length_cons, List.length_nil]
  omega
theorem Mv (e : Ap) : ∀ b ∈ Hl e, GB b := by
  have h6 : ∀ b ∈ ([101, 118, 101, 110, 116, 32] : List UInt8), GB b := by decide
  have h1 : ∀ b ∈ ([32] : List UInt8), GB b := by decide
  have ap : ∀ (x y : List UInt8), (∀ b ∈ x, GB b) → (∀ b ∈ y, GB b) → ∀ b ∈ x ++ y, GB b := fun x y hx hy b hb => (List.mem_append.1 hb).elim (hx b) (hy b)
  exact ap _ _ (ap _ _ (ap _ _ (ap _ _ (ap _ _ h6 (Il e.Bv).2) h1) (Kx _)) h1) (LQ _)
end

section
set_option linter.unusedVariables false
set_option linter.unusedSimpArgs false

/- What is said; what holds of it. -/
def Oq (a : Aq) : Prop := a.Bb.length ≤ 200 ∧ Db .u64 a.Dh ∧ Db .u64 a.Di
def On (t : Aw) : Prop := t.Bb.length ≤ 200 ∧ Db .u32 t.Bp ∧ Db .u64 t.Dq
def Oo (h : Ar) : Prop := h.Cq.length ≤ 200 ∧ h.Cr.length ≤ 200 ∧ Db .u32 h.Bp ∧ Db .u64 h.Ct
def Nw (e : Ap) : Prop := e.Bb.length ≤ 2000 ∧ Db .u64 e.BB
structure IH (c : AK) : Prop where
  iD : Db .u32 c.BS
  hg : Db .u64 c.Ae.AR
  tm : Db .u64 c.Ae.A6
  gs : Db .u64 c.Ae.Bn
  ac : c.Ae.Ao.length ≤ 100 ∧ ∀ y ∈ c.Ae.Ao, Oq y
  ev : c.Ae.AD.length ≤ 4100 ∧ ∀ y ∈ c.Ae.AD, Nw y
  tk : c.Al.At.length ≤ 60 ∧ ∀ y ∈ c.Al.At, On y
  hd : c.Al.Am.length ≤ 100 ∧ ∀ y ∈ c.Al.Am, Oo y
  lv : c.Ad.AP.length ≤ 300
  qu : c.Ad.AW.length ≤ 300
  hc : c.Ad.Aj.length = 32
  bd : Db .u64 c.Ad.A8
  rc : Db .u32 c.Aa.AB
  rm : c.Aa.Aj.length = 32
  rr : c.Aa.AT.length ≤ 300
  rs : c.Aa.Az.length ≤ 300
def Gn (a b : Int) : Int := if a < b then 0 else IntKind.wrap .u64 (a - b)
theorem EZ (a b : Int) : Db .u64 (Gn a b) := by
  unfold Gn
  split
  · exact by decide
  · exact EY _ _
theorem Kq (a b : Int) : ∃ e, Ew a b = some (Gn a b, e) := by
  unfold Ew Gn
  by_cases q : a < b
  · rw [if_pos (decide_eq_true q), if_pos q]; exact ⟨_, rfl⟩
  · rw [if_neg (by rw [decide_eq_false q]; decide), if_neg q]; exact ⟨_, rfl⟩
theorem Lm (t : Aw) : FV t = some (Gn t.BO t.BQ, Gn t.BP t.Bx) := by
  obtain ⟨e1, h1⟩ := Kq t.BO t.BQ
  obtain ⟨e2, h2⟩ := Kq t.BP t.Bx
  exact AL h1 (AL h2 rfl)
def Js (f c : Bool) : List UInt8 := if f = true then [102, 97, 105, 108, 101, 100] else if c = true then [99, 117, 116] else [111, 112, 101, 110]
theorem IA (f c : Bool) : Ej f c = some (Js f c) := by cases f <;> cases c <;> rfl
def cP (k : Int) (y : Av) : Bool := decide (y.Dc = k)
def LR (c : AK) : Nat := c.Aa.Az.countP (cP 1)
def LZ (c : AK) : Nat := c.Aa.Az.countP (cP 2)
def Lc (a : Aq) : List (List UInt8) := [[97, 99, 99, 111, 117, 110, 116], ID a.Bb, [99, 111, 105, 110, 115], tx a.Di, [110, 111, 110, 99, 101], tx a.Dh]
def Km (t : Aw) : List (List UInt8) := [[116, 111, 107, 101, 110], tx t.Bp, ID t.Bb, [99, 97, 112], tx t.Dq, [108, 111, 99, 107, 101, 100], tx (Gn t.BP t.Bx), [109, 105, 110, 116, 101, 100], tx (Gn t.BO t.BQ)]
def Le (h : Ar) : List (List UInt8) := [[104, 111, 108, 100, 115], ID h.Cr, tx h.Bp, ID h.Cq, tx h.Ct]
def L0 (c : AK) : List (List UInt8) := [[99, 104, 97, 105, 110], tx c.BS, [104, 101, 105, 103, 104, 116], tx c.Ae.AR, [116, 105, 109, 101], tx c.Ae.A6, [103, 97, 115], tx c.Ae.Bn]
def LB (c : AK) : List (List UInt8) := [[104, 111, 109, 101], [108, 101, 116, 116, 101, 114, 115], tx (c.Ad.AP.length : Int), [113, 117, 101, 117, 101, 100], tx (c.Ad.AW.length : Int), [114, 111, 111, 116], JX c.Ad.Aj, [98, 111, 110, 100], tx c.Ad.A8, Js c.Ad.Au false]
def Ki (c : AK) : List (List UInt8) := [[114, 101, 112, 108, 105, 99, 97], [111, 102], tx c.Aa.AB, [114, 111, 111, 116, 115], tx (c.Aa.AT.length : Int), [115, 104, 111, 119, 110], tx (LR c : Int), [100, 111, 110, 101], tx (LZ c : Int), [114, 111, 111, 116], JX c.Aa.Aj, Js c.Aa.Au c.Aa.Bh]
def KZ (c : AK) : List Ap := c.Ae.AD.drop (c.Ae.AD.length - 10)
def MG (c : AK) (b : List UInt8) : List UInt8 := ((b ++ c.Ae.Ao.flatMap fun a => sy (Lc a)) ++ c.Al.At.flatMap fun t => sy (Km t)) ++ c.Al.Am.flatMap fun h => sy (Le h)
def Na (c : AK) : List UInt8 := ((MG c (sy (L0 c)) ++ sy (LB c)) ++ sy (Ki c)) ++ (KZ c).flatMap fun e => sy [Hl e]

/- Good parts: short, and plain. -/
abbrev gP (p : List UInt8) : Prop := p.length ≤ 18040 ∧ ∀ b ∈ p, GB b
theorem c0 : ∀ p ∈ ([] : List (List UInt8)), gP p := by intro p h; cases h
theorem c1 {a : List UInt8} {t : List (List UInt8)} (h1 : gP a) (h2 : ∀ p ∈ t, gP p) : ∀ p ∈ a :: t, gP p := List.forall_mem_cons.2 ⟨h1, h2⟩
theorem gq {l : List UInt8} (h : l.length ≤ 2000) : gP (ID l) := ⟨by have := EH l; omega, Kx l⟩
theorem gt {x : Int} (h : x < 18446744073709551616) : gP (tx x) := ⟨by have := Dd h; omega, LQ x⟩
theorem Lf {x : Int} (h : Db .u64 x) : gP (tx x) := gt (D0 h).2
theorem Ny {x : Int} (h : Db .u32 x) : gP (tx x) := gt (by have := G1 h; omega)
theorem gr (d : List UInt8) : gP (JX d) := ⟨by have := H8 d; omega, Mh d⟩
theorem gs (f c : Bool) : gP (Js f c) := by cases f <;> cases c <;> decide
theorem ge {e : Ap} (h : Nw e) : gP (Hl e) := ⟨JM e h.1 h.2, Mv e⟩
theorem gA {a : Aq} (h : Oq a) : ∀ p ∈ Lc a, gP p := c1 (by decide) (c1 (gq (by have := h.1; omega)) (c1 (by decide) (c1 (Lf h.2.2) (c1 (by decide) (c1 (Lf h.2.1) c0)))))
theorem gT {t : Aw} (h : On t) : ∀ p ∈ Km t, gP p := c1 (by decide) (c1 (Ny h.2.1) (c1 (gq (by have := h.1; omega)) (c1 (by decide) (c1 (Lf h.2.2) (c1 (by decide) (c1 (Lf (EZ _ _)) (c1 (by decide) (c1 (Lf (EZ _ _)) c0))))))))
theorem gH {x : Ar} (h : Oo x) : ∀ p ∈ Le x, gP p := c1 (by decide) (c1 (gq (by have := h.2.1; omega)) (c1 (Ny h.2.2.1) (c1 (gq (by have := h.1; omega)) (c1 (Lf h.2.2.2) c0))))
theorem gC {c : AK} (h : IH c) : ∀ p ∈ L0 c, gP p := c1 (by decide) (c1 (Ny h.iD) (c1 (by decide) (c1 (Lf h.hg) (c1 (by decide) (c1 (Lf h.tm) (c1 (by decide) (c1 (Lf h.gs) c0)))))))
theorem gM {c : AK} (h : IH c) : ∀ p ∈ LB c, gP p := c1 (by decide) (c1 (by decide) (c1 (gt (by have := h.lv; omega)) (c1 (by decide) (c1 (gt (by have := h.qu; omega)) (c1 (by decide) (c1 (gr _) (c1 (by decide) (c1 (Lf h.bd) (c1 (gs _ _) c0)))))))))
theorem I9 (c : AK) : LR c ≤ c.Aa.Az.length := List.countP_le_length
theorem Jj (c : AK) : LZ c ≤ c.Aa.Az.length := List.countP_le_length
theorem gR {c : AK} (h : IH c) : ∀ p ∈ Ki c, gP p := by
  have h1 := I9 c
  have h2 := Jj c
  have h3 := h.rs
  exact c1 (by decide) (c1 (by decide) (c1 (Ny h.rc) (c1 (by decide) (c1 (gt (by have := h.rr; omega)) (c1 (by decide) (c1 (gt (by omega)) (c1 (by decide) (c1 (gt (by omega)) (c1 (by decide) (c1 (gr _) (c1 (gs _ _) c0)))))))))))
theorem Hk {ps : List (List UInt8)} (h : ∀ p ∈ ps, gP p) (hl : ps.length ≤ 12) : (sy ps).length ≤ 300000 := by
  have := Md (ps := ps) (m := 18040) fun p hp => (h p hp).1
  have : ps.length * (18040 + 1) ≤ 12 * (18040 + 1) := Nat.mul_le_mul_right _ hl
  omega
theorem MK (a : Aq) : (Lc a).length ≤ 12 := by show 6 ≤ 12; omega
theorem MF (a : Aw) : (Km a).length ≤ 12 := by show 9 ≤ 12; omega
theorem M6 (a : Ar) : (Le a).length ≤ 12 := by show 5 ≤ 12; omega
theorem Gc (b : List UInt8) {ps : List (List UInt8)} (h : ∀ p ∈ ps, gP p) (hl : ps.length ≤ 12) (hb : b.length ≤ 70368744177664) : BZ ⟨b⟩ ps = some ⟨b ++ sy ps⟩ := by
  have := Hk h hl
  exact Mg b ps (by omega) (by omega)

/- A loop that says a line for each of a list. -/
theorem Fm {R α : Type} [Inhabited α] (l : List α) (body : Int → B7 → Option (Ds R (Int × B7))) (g : α → List UInt8) (hn : l.length ≤ 10000) (hg : ∀ x ∈ l, (g x).length ≤ 300000)
    (hb : ∀ i, i < l.length → ∀ b : List UInt8, b.length ≤ 70368744177664 → body (i : Int) ⟨b⟩ = some (.cont (((i + 1 : Nat) : Int), ⟨b ++ g (l.getD i default)⟩)))
    (he : ∀ b, body (l.length : Int) b = some (.brk ((l.length : Int), b))) (b : List UInt8) (hbl : b.length ≤ 30000000000000) :
    Cs (fun s : Int × B7 => body s.1 s.2) (((l.length : Int) - 0 : Int).toNat + 2) (0, ⟨b⟩) = some (.next ((l.length : Int), ⟨b ++ l.flatMap g⟩)) := by
  have hk : ∀ i, ((l.take i).flatMap g).length ≤ 3000000000 := fun i => by
    have h1 := Hs hg i
    have h2 : 300000 * l.length ≤ 300000 * 10000 := Nat.mul_le_mul_left _ hn
    omega
  have h := E5 (body := fun s : Int × B7 => body s.1 s.2) (fun i => ((i : Int), (⟨b ++ (l.take i).flatMap g⟩ : B7))) l.length (fun i hi => by
    have := hk i
    show body (i : Int) ⟨_⟩ = some (.cont (((i + 1 : Nat) : Int), ⟨_⟩))
    rw [hb i hi _ (by rw [List.length_append]; omega), Gm l g i hi, List.append_assoc]) ((l.length : Int), ⟨b ++ l.flatMap g⟩) (by
    show body (l.length : Int) ⟨_⟩ = _
    rw [he, List.take_length]) l.length 0 (((l.length : Int) - 0 : Int).toNat + 2) (by omega) (by omega)
  rw [← h]
  congr 1
  show _ = (((0 : Nat) : Int), (⟨b ++ (l.take 0).flatMap g⟩ : B7))
  rw [List.take_zero, List.flatMap_nil, List.append_nil]
  rfl
theorem E6 {i n : Nat} (h : i < n) (hn : n ≤ 10000) : IntKind.wrap .i64 ((i : Int) + 1) = ((i + 1 : Nat) : Int) := by rw [FB (by omega)]; omega
theorem LD {α : Type} {l : List α} {g : α → List UInt8} (hn : l.length ≤ 10000) (hg : ∀ x ∈ l, (g x).length ≤ 300000) : (l.flatMap g).length ≤ 3000000000 := by
  have h1 := KU hg
  have h2 : 300000 * l.length ≤ 300000 * 10000 := Nat.mul_le_mul_left _ hn
  omega
theorem J4 {c : AK} (h : IH c) (b : List UInt8) (hb : b.length ≤ 10000000) : A9 ⟨b⟩ c = some ⟨MG c b⟩ := by
  have l1 := h.ac.1
  have l2 := h.tk.1
  have l3 := h.hd.1
  have n1 := LD (l := c.Ae.Ao) (g := fun a => sy (Lc a)) (by omega) (fun x hx => Hk (gA (h.ac.2 x hx)) (MK _))
  have n2 := LD (l := c.Al.At) (g := fun t => sy (Km t)) (by omega) (fun x hx => Hk (gT (h.tk.2 x hx)) (MF _))
  unfold A9
  refine CC (Fm c.Ae.Ao (A9.b1 c) (fun a => sy (Lc a)) (by omega) (fun x hx => Hk (gA (h.ac.2 x hx)) (MK _)) (fun i hi b hb => ?_) (fun b => ?_) b (by omega)) ?_
  · have ok := h.ac.2 _ (get_mem hi)
    unfold A9.b1
    rw [if_pos (decide_eq_true (by omega)), if_pos (by omega), show ((i : Nat) : Int).toNat = i by omega, E6 hi (by omega)]
    exact AL (FN _ (by have := ok.1; omega)) (AL (Fx (D0 ok.2.2)) (AL (Fx (D0 ok.2.1)) (AL (Gc b (gA ok) (MK _) hb) rfl)))
  · unfold A9.b1
    rw [if_neg (by rw [decide_eq_false (by omega)]; decide)]
  refine CC (Fm c.Al.At (A9.b2 c) (fun t => sy (Km t)) (by omega) (fun x hx => Hk (gT (h.tk.2 x hx)) (MF _)) (fun i hi b hb => ?_) (fun b => ?_) _ (by rw [List.length_append]; omega)) ?_
  · have ok := h.tk.2 _ (get_mem hi)
    unfold A9.b2
    rw [if_pos (decide_eq_true (by omega)), if_pos (by omega), show ((i : Nat) : Int).toNat = i by omega, E6 hi (by omega)]
    exact AL (Lm _) (AL (or_eq (by have := G1 ok.2.1; omega)) (AL (FN _ (by have := ok.1; omega)) (AL (Fx (D0 ok.2.2)) (AL (Fx (D0 (EZ _ _))) (AL (Fx (D0 (EZ _ _))) (AL (Gc b (gT ok) (MF _) hb) rfl))))))
  · unfold A9.b2
    rw [if_neg (by rw [decide_eq_false (by omega)]; decide)]
  refine CC (Fm c.Al.Am (A9.b3 c) (fun t => sy (Le t)) (by omega) (fun x hx => Hk (gH (h.hd.2 x hx)) (M6 _)) (fun i hi b hb => ?_) (fun b => ?_) _ (by rw [List.length_append, List.length_append]; omega)) rfl
  · have ok := h.hd.2 _ (get_mem hi)
    unfold A9.b3
    rw [if_pos (decide_eq_true (by omega)), if_pos (by omega), show ((i : Nat) : Int).toNat = i by omega, E6 hi (by omega)]
    exact AL (FN _ (by have := ok.2.1; omega)) (AL (or_eq (by have := G1 ok.2.2.1; omega)) (AL (FN _ (by have := ok.1; omega)) (AL (Fx (D0 ok.2.2.2)) (AL (Gc b (gH ok) (M6 _) hb) rfl))))
  · unfold A9.b3
    rw [if_neg (by rw [decide_eq_false (by omega)]; decide)]
theorem Jw {c : AK} (h : IH c) (b : List UInt8) : (MG c b).length ≤ b.length + 9000000000 := by
  have l1 := h.ac.1
  have l2 := h.tk.1
  have l3 := h.hd.1
  have n1 := LD (l := c.Ae.Ao) (g := fun a => sy (Lc a)) (by omega) (fun x hx => Hk (gA (h.ac.2 x hx)) (MK _))
  have n2 := LD (l := c.Al.At) (g := fun t => sy (Km t)) (by omega) (fun x hx => Hk (gT (h.tk.2 x hx)) (MF _))
  have n3 := LD (l := c.Al.Am) (g := fun t => sy (Le t)) (by omega) (fun x hx => Hk (gH (h.hd.2 x hx)) (M6 _))
  unfold MG
  rw [List.length_append, List.length_append, List.length_append]
  omega

/- Home and replica. -/
theorem GO (l : List Av) (p : Av → Bool) (i : Nat) (h : i < l.length) : (l.take (i + 1)).countP p = (l.take i).countP p + if p (l.getD i default) = true then 1 else 0 := by
  have e : l.getD i default = l[i] := by simp [List.getD, h]
  rw [List.take_add_one, List.getElem?_eq_getElem h, List.countP_append, e]
  simp [List.countP_cons]
theorem Ir (l : List Av) (p : Av → Bool) (i : Nat) : (l.take i).countP p ≤ i := by
  have h1 : (l.take i).countP p ≤ (l.take i).length := List.countP_le_length
  rw [List.length_take] at h1
  omega
theorem IX {c : AK} (h : c.Aa.Az.length ≤ 300) :
    Cs (fun s : Int × Int × Int => Be.b1 c s.1 s.2.1 s.2.2) (((c.Aa.Az.length : Int) - 0 : Int).toNat + 2) (0, 0, 0) = some (.next ((LR c : Int), (LZ c : Int), (c.Aa.Az.length : Int))) := by
  refine E5 (body := fun s : Int × Int × Int => Be.b1 c s.1 s.2.1 s.2.2) (fun i => ((((c.Aa.Az.take i).countP (cP 1) : Nat) : Int), (((c.Aa.Az.take i).countP (cP 2) : Nat) : Int), (i : Int))) c.Aa.Az.length (fun i hi => ?_) _ ?_ c.Aa.Az.length 0 _ (by omega) (by omega)
  · have k1 := Ir c.Aa.Az (cP 1) i
    have k2 := Ir c.Aa.Az (cP 2) i
    show Be.b1 c (((c.Aa.Az.take i).countP (cP 1) : Nat) : Int) (((c.Aa.Az.take i).countP (cP 2) : Nat) : Int) (i : Int) = some (.cont ((((c.Aa.Az.take (i + 1)).countP (cP 1) : Nat) : Int), (((c.Aa.Az.take (i + 1)).countP (cP 2) : Nat) : Int), ((i + 1 : Nat) : Int)))
    rw [GO _ _ i hi, GO _ _ i hi]
    unfold Be.b1 Be.j1
    rw [if_pos (decide_eq_true (by omega)), if_pos (by omega), show ((i : Nat) : Int).toNat = i by omega, E6 hi (by omega)]
    by_cases q1 : (c.Aa.Az.getD i default).Dc = 1
    · have p1 : cP 1 (c.Aa.Az.getD i default) = true := decide_eq_true q1
      have p2 : cP 2 (c.Aa.Az.getD i default) = false := decide_eq_false (by rw [q1]; decide)
      rw [if_pos (decide_eq_true q1), p1, p2, if_pos rfl, if_neg (by decide), FB (by omega)]
      rfl
    · have p1 : cP 1 (c.Aa.Az.getD i default) = false := decide_eq_false q1
      rw [if_neg (by rw [decide_eq_false q1]; decide), p1]
      by_cases q2 : (c.Aa.Az.getD i default).Dc = 2
      · have p2 : cP 2 (c.Aa.Az.getD i default) = true := decide_eq_true q2
        rw [if_pos (decide_eq_true q2), p2, if_pos rfl, FB (by omega)]
        rfl
      · have p2 : cP 2 (c.Aa.Az.getD i default) = false := decide_eq_false q2
        rw [if_neg (by rw [decide_eq_false q2]; decide), p2]
        rfl
  · show Be.b1 c _ _ (c.Aa.Az.length : Int) = _
    unfold Be.b1
    rw [if_neg (by rw [decide_eq_false (by omega)]; decide), List.take_length]
    rfl
theorem Kd {c : AK} (h : IH c) (b : List UInt8) (hb : b.length ≤ 10000000000) : Be ⟨b⟩ c = some ⟨(b ++ sy (LB c)) ++ sy (Ki c)⟩ := by
  have h1 := h.lv
  have h2 := h.qu
  have h3 := h.rr
  have h4 := h.rs
  have h5 := I9 c
  have h6 := Jj c
  have n1 := Hk (gM h) (by show 10 ≤ 12; omega)
  unfold Be
  refine AL (IV _ (by omega)) (AL (IV _ (by omega)) (AL (Ju _ h.hc) (AL (Fx (D0 h.bd)) (AL (IA _ _) (AL (Gc (ps := LB c) b (gM h) (by show 10 ≤ 12; omega) (by omega)) (CC (IX h4) ?_))))))
  exact AL (or_eq (by have := G1 h.rc; omega)) (AL (IV _ (by omega)) (AL (IV _ (by omega)) (AL (IV _ (by omega)) (AL (Ju _ h.rm) (AL (IA _ _) (AL (Gc (ps := Ki c) _ (gR h) (by show 12 ≤ 12; omega) (by rw [List.length_append]; omega)) rfl))))))

/- A chain. -/
theorem Lh {l : List Ap} (h : l.length ≤ 10000) : C7 l 10 = some (l.drop (l.length - 10)) := by
  have e : (if (0 : Int) < (IntKind.wrap .i64 ((l.length : Int) - (if (0 : Int) < 10 then 10 else (0 : Int)))) then (IntKind.wrap .i64 ((l.length : Int) - (if (0 : Int) < 10 then 10 else (0 : Int)))) else (0 : Int)) = ((l.length - 10 : Nat) : Int) := by
    rw [if_pos (show (0 : Int) < 10 by decide), FB (by omega)]
    split <;> omega
  unfold C7
  rw [e, if_pos (by omega), show ((l.length : Nat) : Int).toNat = l.length by omega, show ((l.length - 10 : Nat) : Int).toNat = l.length - 10 by omega, List.take_length]
  refine AL (x := l.drop (l.length - 10)) ?_ rfl
  unfold De
  rw [if_pos (by rw [List.length_drop]; omega)]
theorem IW {c : AK} (h : IH c) : Cz c = some (Na c) := by
  have n1 := Hk (gC h) (by show 8 ≤ 12; omega)
  have n2 := Hk (gM h) (by show 10 ≤ 12; omega)
  have n3 := Hk (gR h) (by show 12 ≤ 12; omega)
  have n4 := Jw h (sy (L0 c))
  have h0 := h.ev.1
  have hx : ∀ y ∈ KZ c, Nw y := fun y hy => h.ev.2 y (List.mem_of_mem_drop hy)
  have hl : (KZ c).length ≤ 10 := by unfold KZ; rw [List.length_drop]; omega
  unfold Cz
  refine AL (or_eq (by have := G1 h.iD; omega)) (AL (Fx (D0 h.hg)) (AL (Fx (D0 h.tm)) (AL (Fx (D0 h.gs)) (AL (Gc (ps := L0 c) [] (gC h) (by show 8 ≤ 12; omega) (by simp)) (AL (J4 h _ (by rw [List.nil_append]; omega)) (AL (Kd h _ (by rw [List.nil_append]; omega)) (AL (Lh (by omega)) ?_)))))))
  refine CC (Fm (KZ c) (Cz.b1 (KZ c)) (fun e => sy [Hl e]) (by omega) (fun x hy => Hk (c1 (ge (hx x hy)) c0) (by show 1 ≤ 12; omega)) (fun i hi b hb => ?_) (fun b => ?_) _ (by rw [List.length_append, List.length_append, List.nil_append]; omega)) ?_
  · have ok := hx _ (get_mem hi)
    unfold Cz.b1
    rw [if_pos (decide_eq_true (by omega)), if_pos (by omega), show ((i : Nat) : Int).toNat = i by omega, E6 hi (by omega)]
    exact AL (IU _ ok.1 ok.2) (AL (Gc b (c1 (ge ok) c0) (by show 1 ≤ 12; omega) hb) rfl)
  · unfold Cz.b1
    rw [if_neg (by rw [decide_eq_false (by omega)]; decide)]
  · refine AL (x := Na c) ?_ rfl
    unfold EJ
    rw [if_pos (by
      intro h0
      have := congrArg List.length h0
      simp only [List.nil_append] at this
      rw [List.length_append, List.length_append, List.length_append] at this
      unfold sy at this
      simp at this)]
    rw [List.nil_append]
    rfl
end

section
set_option linter.unusedVariables false
set_option linter.unusedSimpArgs false

theorem JJ {i n : Nat} (h : i < n) (hn : n ≤ Bw) : IntKind.wrap .i64 ((i : Int) + 1) = ((i + 1 : Nat) : Int) := by unfold Bw at hn; rw [FB (by omega)]; omega
theorem Hp {α : Type} [Inhabited α] {l : List α} {P : α → Prop} (h : ∀ j, j < l.length → P (l.getD j default)) : ∀ y ∈ l, P y := by
  intro y hy
  obtain ⟨j, hj, e⟩ := List.mem_iff_getElem.1 hy
  have := h j hj
  have e2 : l.getD j default = l[j] := by simp [List.getD, hj]
  rwa [e2, e] at this
theorem N3 (l : Bo) (hl : l.Ao.length ≤ Bw) : ∃ b, BM l = some b ∧ (b = true → (l.Ao.length ≤ 100 ∧ ∀ y ∈ l.Ao, y.Bb.length ≤ 200) ∧ l.AD.length ≤ 4100) := by
  have h := Gr (R := Bool) (body := fun s : Int => BM.b1 l s) l.Ao.length (fun i => decide ((100 : Int) < (l.Ao.length : Int)) || decide ((200 : Int) < ((l.Ao.getD i default).Bb.length : Int))) false (fun i hi => by
    show BM.b1 l (i : Int) = _
    unfold BM.b1 BM.j1
    rw [if_pos (decide_eq_true (by omega)), if_pos (by omega), JJ hi hl, show ((i : Nat) : Int).toNat = i by omega]
    by_cases q : (100 : Int) < (l.Ao.length : Int)
    · rw [if_pos (decide_eq_true q), decide_eq_true q, Bool.true_or]
    · rw [if_neg (by rw [decide_eq_false q]; decide), decide_eq_false q, Bool.false_or]) (by
    show BM.b1 l (l.Ao.length : Int) = _
    unfold BM.b1
    rw [if_neg (by rw [decide_eq_false (by omega)]; decide)]) l.Ao.length 0 (((l.Ao.length : Int) - 0 : Int).toNat + 2) (by omega) (by omega)
  unfold BM
  rcases h with ⟨j, _, _, h⟩ | ⟨hn, h⟩
  · exact ⟨false, AL h rfl, fun e => by cases e⟩
  · have ha : l.Ao.length ≤ 100 ∧ ∀ y ∈ l.Ao, y.Bb.length ≤ 200 := by
      refine ⟨?_, Hp fun j hj => ?_⟩
      · rcases Nat.eq_zero_or_pos l.Ao.length with q | q
        · omega
        · have := hn 0 (Nat.le_refl _) q
          rw [Bool.or_eq_false_iff] at this
          have := of_decide_eq_false this.1
          omega
      · have := hn j (Nat.zero_le _) hj
        rw [Bool.or_eq_false_iff] at this
        have := of_decide_eq_false this.2
        omega
    have : ∃ b, (if (decide ((l.AD.length : Int) ≤ (200 : Int))) = true then BM.j2 true else (if (decide ((4094 : Int) ≤ (l.AD.length : Int))) = true then BM.j2 (decide ((l.AD.length : Int) ≤ (4100 : Int))) else BM.j2 false)) = some b ∧ (b = true → l.AD.length ≤ 4100) := by
      unfold BM.j2
      by_cases q1 : (l.AD.length : Int) ≤ (200 : Int)
      · rw [if_pos (decide_eq_true q1)]; exact ⟨_, rfl, fun _ => by omega⟩
      · rw [if_neg (by rw [decide_eq_false q1]; decide)]
        split
        · exact ⟨_, rfl, fun e => by have := of_decide_eq_true e; omega⟩
        · exact ⟨_, rfl, fun e => by cases e⟩
    obtain ⟨b, e, k⟩ := this
    exact ⟨b, AL h e, fun q => ⟨ha, k q⟩⟩
theorem N2 (p : Br) (h1 : p.At.length ≤ Bw) (h2 : p.Am.length ≤ Bw) : ∃ b, Bz p = some b ∧ (b = true → (p.At.length ≤ 60 ∧ ∀ y ∈ p.At, y.Bb.length ≤ 200) ∧ (p.Am.length ≤ 100 ∧ ∀ y ∈ p.Am, y.Cq.length ≤ 200 ∧ y.Cr.length ≤ 200)) := by
  have ha := Gr (R := Bool) (body := fun s : Int => Bz.b1 p s) p.At.length (fun i => decide ((200 : Int) < ((p.At.getD i default).Bb.length : Int))) false (fun i hi => by
    show Bz.b1 p (i : Int) = _
    unfold Bz.b1
    rw [if_pos (decide_eq_true (by omega)), if_pos (by omega), JJ hi h1, show ((i : Nat) : Int).toNat = i by omega]) (by
    show Bz.b1 p (p.At.length : Int) = _
    unfold Bz.b1
    rw [if_neg (by rw [decide_eq_false (by omega)]; decide)]) p.At.length 0 (((p.At.length : Int) - 0 : Int).toNat + 2) (by omega) (by omega)
  have hb := Gr (R := Bool) (body := fun s : Int => Bz.b2 p s) p.Am.length (fun i => decide ((200 : Int) < ((p.Am.getD i default).Cq.length : Int)) || decide ((200 : Int) < ((p.Am.getD i default).Cr.length : Int))) false (fun i hi => by
    show Bz.b2 p (i : Int) = _
    unfold Bz.b2 Bz.j2
    rw [if_pos (decide_eq_true (by omega)), if_pos (by omega), JJ hi h2, show ((i : Nat) : Int).toNat = i by omega]
    by_cases q : (200 : Int) < ((p.Am.getD i default).Cq.length : Int)
    · rw [if_pos (decide_eq_true q), decide_eq_true q, Bool.true_or]
    · rw [if_neg (by rw [decide_eq_false q]; decide), decide_eq_false q, Bool.false_or]) (by
    show Bz.b2 p (p.Am.length : Int) = _
    unfold Bz.b2
    rw [if_neg (by rw [decide_eq_false (by omega)]; decide)]) p.Am.length 0 (((p.Am.length : Int) - 0 : Int).toNat + 2) (by omega) (by omega)
  have key : ∃ b, Bz.j1 p false = some b ∧ (b = true → (∀ y ∈ p.At, y.Bb.length ≤ 200) ∧ ∀ y ∈ p.Am, y.Cq.length ≤ 200 ∧ y.Cr.length ≤ 200) := by
    unfold Bz.j1
    rw [if_neg (by decide)]
    rcases ha with ⟨j, _, _, ha⟩ | ⟨hn, ha⟩
    · exact ⟨_, AL ha rfl, fun e => by cases e⟩
    · rcases hb with ⟨j, _, _, hb⟩ | ⟨hm, hb⟩
      · exact ⟨_, AL ha (AL hb rfl), fun e => by cases e⟩
      · refine ⟨_, AL ha (AL hb rfl), fun _ => ⟨Hp fun j hj => ?_, Hp fun j hj => ?_⟩⟩
        · have := of_decide_eq_false (hn j (Nat.zero_le _) hj)
          omega
        · have := hm j (Nat.zero_le _) hj
          rw [Bool.or_eq_false_iff] at this
          have k1 := of_decide_eq_false this.1
          have k2 := of_decide_eq_false this.2
          omega
  have skip : Bz.j1 p true = some false := by unfold Bz.j1; rw [if_pos rfl]
  unfold Bz
  by_cases q0 : (60 : Int) < (p.At.length : Int)
  · rw [if_pos (decide_eq_true q0)]; exact ⟨_, skip, fun e => by cases e⟩
  · rw [if_neg (by rw [decide_eq_false q0]; decide)]
    by_cases q : (100 : Int) < (p.Am.length : Int)
    · rw [decide_eq_true q]; exact ⟨_, skip, fun e => by cases e⟩
    · rw [decide_eq_false q]
      obtain ⟨b, e, k⟩ := key
      exact ⟨b, e, fun z => ⟨⟨by omega, (k z).1⟩, by omega, (k z).2⟩⟩
theorem N1 (h : BA) : ∃ b, Dw h = some b ∧ (b = true → h.AP.length ≤ 300 ∧ h.AW.length ≤ 300) := by
  unfold Dw Dw.j1
  by_cases q1 : (h.AP.length : Int) ≤ 40
  · rw [if_pos (decide_eq_true q1)]
    by_cases q2 : (h.AW.length : Int) ≤ 300
    · rw [if_pos (decide_eq_true q2)]; exact ⟨_, rfl, fun _ => by omega⟩
    · rw [if_neg (by rw [decide_eq_false q2]; decide)]; exact ⟨_, rfl, fun e => by cases e⟩
  · rw [if_neg (by rw [decide_eq_false q1]; decide)]; exact ⟨_, rfl, fun e => by cases e⟩
theorem N0 (h : Bl) : ∃ b, Dv h = some b ∧ (b = true → h.AT.length ≤ 300 ∧ h.Az.length ≤ 300) := by
  unfold Dv Dv.j1
  by_cases q1 : (h.AG.length : Int) ≤ 20
  · rw [if_pos (decide_eq_true q1)]
    by_cases q2 : (h.AT.length : Int) ≤ 300
    · rw [if_pos (decide_eq_true q2)]; exact ⟨_, rfl, fun e => by have := of_decide_eq_true e; omega⟩
    · rw [if_neg (by rw [decide_eq_false q2]; decide)]; exact ⟨_, rfl, fun e => by cases e⟩
  · rw [if_neg (by rw [decide_eq_false q1]; decide)]; exact ⟨_, rfl, fun e => by cases e⟩
/- What a call brings of a chain. -/
def Ow (l : Bo) : Prop := (Db .u64 l.AR) ∧ (Db .u64 l.A6) ∧ (Db .u64 l.Bn) ∧ (l.Ao.length ≤ Bw ∧ ∀ y ∈ l.Ao, (y.Bb.length ≤ Bw) ∧ (y.EE.length = 32) ∧ (Db .u64 y.Dh) ∧ (Db .u64 y.Di)) ∧
  (l.AD.length ≤ Bw ∧ ∀ y ∈ l.AD, (Db .i64 y.Bv) ∧ (y.Bb.length ≤ Bw) ∧ (Db .u64 y.BB) ∧ (y.BH.length = 32))
def Ov (p : Br) : Prop := (p.At.length ≤ Bw ∧ ∀ y ∈ p.At, (Db .u32 y.Bp) ∧ (y.Bb.length ≤ Bw) ∧ (Db .u64 y.Dq) ∧ (Db .u64 y.BP) ∧ (Db .u64 y.Bx) ∧ (Db .u64 y.BO) ∧ (Db .u64 y.BQ)) ∧
  (p.Am.length ≤ Bw ∧ ∀ y ∈ p.Am, (Db .u32 y.Bp) ∧ (y.Cq.length ≤ Bw) ∧ (y.Cr.length ≤ Bw) ∧ (Db .u64 y.Ct))
theorem NZ (c : AK) (g1 : Db .u32 c.BS) (g2 : Ow c.Ae) (g3 : Ov c.Al) (g4 : c.Ad.Aj.length = 32) (g5 : Db .u64 c.Ad.A8) (g6 : Db .u32 c.Aa.AB) (g7 : c.Aa.Aj.length = 32) :
    ∃ b, C9 c = some b ∧ (b = true → (∀ y ∈ c.Ae.AD, y.Bb.length ≤ 2000) → IH c) := by
  obtain ⟨a1, a2, a3, ⟨a4, a5⟩, a6, a7⟩ := g2
  obtain ⟨⟨p1, p2⟩, p3, p4⟩ := g3
  obtain ⟨b1, e1, k1⟩ := N3 c.Ae a4
  obtain ⟨b2, e2, k2⟩ := N2 c.Al p1 p3
  obtain ⟨b3, e3, k3⟩ := N1 c.Ad
  obtain ⟨b4, e4, k4⟩ := N0 c.Aa
  unfold C9 C9.j1
  have no : ∀ (P : Prop), (false = true → P) := fun P e => by cases e
  cases b1 with
  | false => exact ⟨false, AL e1 rfl, no _⟩
  | true =>
  cases b2 with
  | false => exact ⟨false, AL e1 (AL e2 rfl), no _⟩
  | true =>
  cases b3 with
  | false => exact ⟨false, AL e1 (AL e2 (AL e3 rfl)), no _⟩
  | true =>
  cases b4 with
  | false => exact ⟨false, AL e1 (AL e2 (AL e3 (AL e4 rfl))), no _⟩
  | true =>
    obtain ⟨m1, m2⟩ := k1 rfl
    obtain ⟨m3, m4⟩ := k2 rfl
    obtain ⟨m5, m6⟩ := k3 rfl
    obtain ⟨m7, m8⟩ := k4 rfl
    refine ⟨_, AL e1 (AL e2 (AL e3 (AL e4 rfl))), fun _ he => ?_⟩
    exact ⟨g1, a1, a2, a3, ⟨m1.1, fun y hy => ⟨m1.2 y hy, (a5 y hy).2.2.1, (a5 y hy).2.2.2⟩⟩, ⟨m2, fun y hy => ⟨he y hy, (a7 y hy).2.2.1⟩⟩, ⟨m3.1, fun y hy => ⟨m3.2 y hy, (p2 y hy).1, (p2 y hy).2.2.1⟩⟩, ⟨m4.1, fun y hy => ⟨(m4.2 y hy).1, (m4.2 y hy).2, (p4 y hy).1, (p4 y hy).2.2.2⟩⟩, m5, m6, g4, g5, g6, g7, m7, m8⟩

/- How many lines; their bytes; the last. -/
theorem Gh {ps : List (List UInt8)} (h : ∀ p ∈ ps, gP p) : (sy ps).count 10 = 1 := by
  unfold sy
  rw [List.count_append]
  have : (Lib.join ps [32]).count 10 = 0 := by
    rw [List.count_eq_zero]
    intro hb
    have := M3 (fun p hp => (h p hp).2) 10 hb
    exact absurd this.1 (by decide)
  rw [this]
  rfl
theorem Is {α : Type} {l : List α} {g : α → List UInt8} (h : ∀ x ∈ l, (g x).count 10 = 1) : (l.flatMap g).count 10 = l.length := by
  induction l with
  | nil => rfl
  | cons a t ih => rw [List.flatMap_cons, List.count_append, h a List.mem_cons_self, ih fun x hx => h x (List.mem_cons_of_mem _ hx), List.length_cons]; omega
theorem Mu {c : AK} (h : IH c) : ∀ y ∈ KZ c, Nw y := fun y hy => h.ev.2 y (List.mem_of_mem_drop hy)
theorem LI {c : AK} (h : IH c) : (Na c).count 10 = 3 + c.Ae.Ao.length + c.Al.At.length + c.Al.Am.length + min 10 c.Ae.AD.length := by
  unfold Na MG
  simp only [List.count_append]
  rw [Gh (gC h), Gh (gM h), Gh (gR h), Is (fun x hx => Gh (gA (h.ac.2 x hx))), Is (fun x hx => Gh (gT (h.tk.2 x hx))), Is (fun x hx => Gh (gH (h.hd.2 x hx))), Is (fun x hx => Gh (c1 (ge (Mu h x hx)) c0))]
  unfold KZ
  rw [List.length_drop]
  omega
theorem LM : Dl = some true := by
  have ok : IH (AK.mk (0 : Int) (Bo.mk (0 : Int) (0 : Int) (0 : Int) [] []) (Br.mk [] []) (BA.mk (0 : Int) (List.replicate 32 0) (BE.mk (0 : Int) (List.replicate 32 (List.replicate 32 0))) [] [] (List.replicate 32 0) [] (0 : Int) false) (Bl.mk (0 : Int) (0 : Int) (List.replicate 32 0) [] (0 : Int) (List.replicate 32 0) [] [] false false) []) :=
    ⟨(by decide : Db .u32 0), (by decide : Db .u64 0), (by decide : Db .u64 0), (by decide : Db .u64 0), ⟨Nat.zero_le _, fun y hy => by cases hy⟩, ⟨Nat.zero_le _, fun y hy => by cases hy⟩, ⟨Nat.zero_le _, fun y hy => by cases hy⟩, ⟨Nat.zero_le _, fun y hy => by cases hy⟩, Nat.zero_le _, Nat.zero_le _, List.length_replicate, (by decide : Db .u64 0), (by decide : Db .u32 0), List.length_replicate, Nat.zero_le _, Nat.zero_le _⟩
  have h3 := LI ok
  unfold Dl
  refine AL (IW ok) (AL (x := 3) ?_ rfl)
  unfold EF Lib.countByte
  rw [h3]
  rfl
end

section
set_option linter.unusedVariables false
set_option linter.unusedSimpArgs false

/- The ten's numeral. -/
theorem MR {x : Int} (h : 0 ≤ x ∧ x < 256) : IntKind.wrap .u8 x = x := by rw [IntKind.wrap_u8]; omega
theorem Ko (v : Nat) (s : List UInt8) (hv : v < 18446744073709551616) (hs : s.length < 1000) :
    Da.b1 (v : Int) s = if v < 10 then some (.ret (UInt8.ofNat (48 + v % 10) :: s)) else some (.cont (((v / 10 : Nat) : Int), UInt8.ofNat (48 + v % 10) :: s)) := by
  have e1 : ((v : Nat) : Int).tmod 10 = ((v % 10 : Nat) : Int) := rfl
  have e2 : ((v : Nat) : Int).tdiv 10 = ((v / 10 : Nat) : Int) := rfl
  have e3 : Dn ((48 + v % 10 : Nat) : Int) = UInt8.ofNat (48 + v % 10) := rfl
  unfold Da.b1
  rw [e1, e2, G8 (x := 48 + ((v % 10 : Nat) : Int)) (by omega), G8 (x := ((v / 10 : Nat) : Int)) (by omega), MR (by omega), show (48 + ((v % 10 : Nat) : Int)) = ((48 + v % 10 : Nat) : Int) by omega, e3, if_pos (by show 1 + s.length ≤ Bw; unfold Bw; omega)]
  by_cases q : v < 10
  · rw [if_pos q, if_pos (decide_eq_true (by omega))]; rfl
  · rw [if_neg q, if_neg (by rw [decide_eq_false (by omega)]; decide)]; rfl
theorem Kp {x : Int} (h : 0 ≤ x ∧ x < 18446744073709551616) : Da x = some (tx x) := by
  have hl := Dd h.2
  obtain ⟨u, rfl⟩ : ∃ u : Nat, x = (u : Int) := ⟨x.toNat, by omega⟩
  have ht : tx (u : Int) = Lib.decDigits u := by unfold tx; rw [show ((u : Nat) : Int).toNat = u by omega]
  rw [ht] at hl ⊢
  obtain ⟨c, h1, h2⟩ := FX (body := fun s : Int × List UInt8 => Da.b1 s.1 s.2)
    (fun s => ∃ (v : Nat) (l : List UInt8), s = ((v : Int), l) ∧ v < 10 ^ (20 - l.length) ∧ v ≤ u ∧ Lib.decDigits u = Lib.decDigits v ++ l)
    (fun c => match c with | .next s => False | .ret r => r = Lib.decDigits u) (fun s => 20 - s.2.length)
    (fun s ⟨v, l, hs, hv, hvu, hx⟩ => by
      subst hs
      have hlen := congrArg List.length hx
      rw [List.length_append] at hlen
      have hpos : 1 ≤ (Lib.decDigits v).length := by rw [Lib.decDigits_length]; exact Lib.nDigits_pos v
      have hb := Ko v l (by omega) (by omega)
      by_cases q : v < 10
      · rw [if_pos q] at hb
        refine .inr (.inr ⟨_, hb, ?_⟩)
        show _ :: l = Lib.decDigits u
        rw [hx, Hm q, Nat.mod_eq_of_lt q]
        rfl
      · rw [if_neg q] at hb
        have ed : Lib.decDigits v = Lib.decDigits (v / 10) ++ [UInt8.ofNat (48 + v % 10)] := by rw [Lib.decDigits, dif_neg q]
        have hlt : l.length < 20 := by omega
        refine .inl ⟨_, hb, ⟨v / 10, _, rfl, ?_, by omega, ?_⟩, by show 20 - (l.length + 1) < 20 - l.length; omega⟩
        · have e : 20 - l.length = (20 - (l.length + 1)) + 1 := by omega
          rw [e, Nat.pow_succ] at hv
          exact Nat.div_lt_of_lt_mul (by rw [Nat.mul_comm]; exact hv)
        · rw [hx, ed, List.append_assoc]; rfl) 100000 ((u : Int), []) ⟨u, [], rfl, by show u < 10 ^ 20; omega, Nat.le_refl _, by simp⟩ (by show 20 - 0 < 100000; omega)
  cases c with
  | next s => exact h2.elim
  | ret r =>
    have h2 : r = Lib.decDigits u := h2
    subst h2
    exact AL h1 rfl
theorem Kj {x : Int} (h : 0 ≤ x ∧ x < 18446744073709551616) : Df x = some (tx x) := AL (Kp h) rfl
theorem Lu {x : Int} (h : 0 ≤ x ∧ x < 18446744073709551616) : Df (IntKind.wrap .u64 x) = some (tx x) := by rw [G8 h]; exact Kj h
theorem Np (n : Nat) (h : n < 9223372036854775808) : EG (n : Int) = some (tx (n : Int)) := by
  unfold EG
  rw [G8 (by omega)]
  exact AL (Kp (by omega)) rfl

/- The sixteen's. -/
theorem JO : ∀ n : Fin 16, ((([48, 49, 50, 51, 52, 53, 54, 55, 56, 57, 97, 98, 99, 100, 101, 102] : List UInt8).take (n.val + 1)).drop n.val) = [HJ n.val] := by decide +kernel
theorem KQ (v : Nat) (s : List UInt8) (hv : v < 9223372036854775808) (hs : s.length < 1000) :
    Dm.b1 (v : Int) s = if v < 16 then some (.brk ((v : Int), s)) else some (.cont (((v / 16 : Nat) : Int), HJ (v / 16 % 16) :: s)) := by
  have e1 : ((v : Nat) : Int).tdiv 16 = ((v / 16 : Nat) : Int) := rfl
  have e2 : ((v / 16 : Nat) : Int).tmod 16 = ((v / 16 % 16 : Nat) : Int) := rfl
  unfold Dm.b1
  by_cases q : v < 16
  · rw [if_pos q, if_neg (by rw [decide_eq_false (by omega)]; decide)]
  · have hc := JO ⟨v / 16 % 16, Nat.mod_lt _ (by omega)⟩
    have hc : ((([48, 49, 50, 51, 52, 53, 54, 55, 56, 57, 97, 98, 99, 100, 101, 102] : List UInt8).take (v / 16 % 16 + 1)).drop (v / 16 % 16)) = [HJ (v / 16 % 16)] := hc
    rw [if_neg q, if_pos (decide_eq_true (by omega)), e1, FB (x := ((v / 16 : Nat) : Int)) (by omega), e2, FB (by omega), if_pos ⟨by omega, by omega, by show ((v / 16 % 16 : Nat) : Int) + 1 ≤ 16; omega⟩,
      show (((v / 16 % 16 : Nat) : Int) + 1).toNat = v / 16 % 16 + 1 by omega, show ((v / 16 % 16 : Nat) : Int).toNat = v / 16 % 16 by omega, hc, if_pos (by show 1 + s.length ≤ Bw; unfold Bw; omega)]
    rfl
theorem KR (u : Nat) (h : u < 16777216) : Dm (u : Int) = some (Ed u) := by
  have e1 : ((u : Nat) : Int).tmod 16 = ((u % 16 : Nat) : Int) := rfl
  have hc := JO ⟨u % 16, Nat.mod_lt _ (by omega)⟩
  have hc : ((([48, 49, 50, 51, 52, 53, 54, 55, 56, 57, 97, 98, 99, 100, 101, 102] : List UInt8).take (u % 16 + 1)).drop (u % 16)) = [HJ (u % 16)] := hc
  have hl := EC 5 u (by omega)
  unfold Dm
  rw [e1, FB (by omega), if_pos ⟨by omega, by omega, by show ((u % 16 : Nat) : Int) + 1 ≤ 16; omega⟩, show (((u % 16 : Nat) : Int) + 1).toNat = u % 16 + 1 by omega, show ((u % 16 : Nat) : Int).toNat = u % 16 by omega, hc]
  obtain ⟨c, h1, h2⟩ := FX (body := fun s : Int × List UInt8 => Dm.b1 s.1 s.2)
    (fun s => ∃ (v : Nat) (l : List UInt8), s = ((v : Int), l) ∧ v ≤ u ∧ Ed u = if v < 16 then l else Ed (v / 16) ++ l)
    (fun c => match c with | .next s => s.2 = Ed u | .ret _ => False) (fun s => s.1.toNat / 16)
    (fun s ⟨v, l, hs, hvu, hx⟩ => by
      subst hs
      have hll : l.length < 1000 := by
        have := congrArg List.length hx
        split at this
        · omega
        · rw [List.length_append] at this; omega
      have hb := KQ v l (by omega) hll
      by_cases q : v < 16
      · rw [if_pos q] at hb hx
        exact .inr (.inl ⟨_, hb, hx.symm⟩)
      · rw [if_neg q] at hb hx
        refine .inl ⟨_, hb, ⟨v / 16, _, rfl, by omega, ?_⟩, by show ((v / 16 : Nat) : Int).toNat / 16 < ((v : Nat) : Int).toNat / 16; omega⟩
        rw [hx]
        by_cases q2 : v / 16 < 16
        · rw [if_pos q2, Ff q2, Nat.mod_eq_of_lt q2]; rfl
        · rw [if_neg q2, FR q2, List.append_assoc]; rfl) (((u : Int) - 15 : Int).toNat + 2) ((u : Int), [HJ (u % 16)]) ⟨u, _, rfl, Nat.le_refl _, by
        by_cases q : u < 16
        · rw [if_pos q, Ff q, Nat.mod_eq_of_lt q]
        · rw [if_neg q, FR q]⟩ (by show ((u : Nat) : Int).toNat / 16 < _; omega)
  cases c with
  | ret _ => exact h2.elim
  | next s =>
    have h2 : s.2 = Ed u := h2
    refine CC h1 ?_
    rw [← h2]

/- A digest's text. -/
theorem K3 (d b : List UInt8) (i : Nat) (hi : i < 32) (hb : b.length + 2 ≤ 140737488355328) : CS.b1 d b (i : Int) = some (.cont (b ++ JK (d.getD i 0), ((i + 1 : Nat) : Int))) := by
  have ha := (d.getD i 0).toNat_lt
  have e1 : (((d.getD i 0).toNat : Nat) : Int).tmod 16 = (((d.getD i 0).toNat % 16 : Nat) : Int) := rfl
  have e2 : (((d.getD i 0).toNat : Nat) : Int).tdiv 16 = (((d.getD i 0).toNat / 16 : Nat) : Int) := rfl
  have hc1 := JO ⟨(d.getD i 0).toNat / 16, by omega⟩
  have hc1 : ((([48, 49, 50, 51, 52, 53, 54, 55, 56, 57, 97, 98, 99, 100, 101, 102] : List UInt8).take ((d.getD i 0).toNat / 16 + 1)).drop ((d.getD i 0).toNat / 16)) = [HJ ((d.getD i 0).toNat / 16)] := hc1
  have hc2 := JO ⟨(d.getD i 0).toNat % 16, Nat.mod_lt _ (by omega)⟩
  have hc2 : ((([48, 49, 50, 51, 52, 53, 54, 55, 56, 57, 97, 98, 99, 100, 101, 102] : List UInt8).take ((d.getD i 0).toNat % 16 + 1)).drop ((d.getD i 0).toNat % 16)) = [HJ ((d.getD i 0).toNat % 16)] := hc2
  unfold CS.b1
  rw [if_pos (decide_eq_true (by omega)), if_pos (by omega), show ((i : Nat) : Int).toNat = i by omega, e1, e2, MR (x := (((d.getD i 0).toNat / 16 : Nat) : Int)) (by omega), MR (x := (((d.getD i 0).toNat / 16 : Nat) : Int) + 1) (by omega), MR (x := (((d.getD i 0).toNat % 16 : Nat) : Int) + 1) (by omega),
    if_pos ⟨by omega, by omega, by show (((d.getD i 0).toNat / 16 : Nat) : Int) + 1 ≤ 16; omega⟩, show ((((d.getD i 0).toNat / 16 : Nat) : Int) + 1).toNat = (d.getD i 0).toNat / 16 + 1 by omega, show (((d.getD i 0).toNat / 16 : Nat) : Int).toNat = (d.getD i 0).toNat / 16 by omega, hc1,
    if_pos (by show b.length + 1 ≤ Bw; unfold Bw; omega), if_pos ⟨by omega, by omega, by show (((d.getD i 0).toNat % 16 : Nat) : Int) + 1 ≤ 16; omega⟩, show ((((d.getD i 0).toNat % 16 : Nat) : Int) + 1).toNat = (d.getD i 0).toNat % 16 + 1 by omega, show (((d.getD i 0).toNat % 16 : Nat) : Int).toNat = (d.getD i 0).toNat % 16 by omega, hc2,
    if_pos (by rw [List.length_append]; show b.length + 1 + 1 ≤ Bw; unfold Bw; omega), FB (by omega), List.append_assoc]
  rfl
theorem N6 (d : List UInt8) (hd : d.length = 32) : CS d = some (Lk d) := by
  have hl : ∀ i, i < 32 → ((d.take i).flatMap JK).length ≤ 2 * d.length := fun i _ => Hs (fun x _ => Nat.le_refl 2) i
  have h := E5 (body := fun s : (List UInt8) × Int => CS.b1 d s.1 s.2) (fun i => ((d.take i).flatMap JK, (i : Int))) 32 (fun i hi => by
    have := hl i hi
    show CS.b1 d ((d.take i).flatMap JK) (i : Int) = some (.cont ((d.take (i + 1)).flatMap JK, ((i + 1 : Nat) : Int)))
    rw [K3 d _ i hi (by omega), Gm d JK i (by omega)]
    rfl) (Lk d, 32) (by
    show CS.b1 d ((d.take 32).flatMap JK) 32 = _
    unfold CS.b1
    rw [if_neg (by decide), List.take_of_length_le (by omega)]
    rfl) 32 0 ((32 - 0 : Int).toNat + 2) (by omega) (by decide)
  exact CC h rfl
theorem d30 (d : List UInt8) (hd : d.length = 32) : Gz d = some (JX d) := by
  refine AL (N6 d hd) ?_
  rw [if_pos (by rw [H7]; omega)]
  rfl
end

section
set_option linter.unusedVariables false
set_option linter.unusedSimpArgs false

/- A rune's number and width, from what the model's decoder tells. -/
def oneOf (b0 : Nat) (p : Nat × Nat) : Int × Int := (((if p.1 = 65533 ∧ p.2 = 1 then b0 + 2000000 else p.1 : Nat) : Int), (p.2 : Int))
theorem Er (b0 : Nat) : oneOf b0 (65533, 1) = (((b0 + 2000000 : Nat) : Int), 1) := by unfold oneOf; rw [if_pos ⟨rfl, rfl⟩]; rfl
theorem Ge (b0 v k : Nat) (h : k ≠ 1) : oneOf b0 (v, k) = ((v : Int), (k : Int)) := by unfold oneOf; rw [if_neg (fun z => h z.2)]
theorem MU (n b0 b1 b2 b3 lo hi : Nat) : Lib.slowN n b0 b1 b2 b3 2 lo hi = if 1 < n ∧ lo ≤ b1 ∧ b1 ≤ hi then (b0 % 32 * 64 + b1 % 64, 2) else (65533, 1) := by
  unfold Lib.slowN
  repeat' split
  all_goals first | (exfalso; omega) | rfl
theorem MT (n b0 b1 b2 b3 lo hi : Nat) : Lib.slowN n b0 b1 b2 b3 3 lo hi = if (1 < n ∧ lo ≤ b1 ∧ b1 ≤ hi) ∧ 2 < n ∧ 128 ≤ b2 ∧ b2 ≤ 191 then (b0 % 16 * 4096 + b1 % 64 * 64 + b2 % 64, 3) else (65533, 1) := by
  unfold Lib.slowN
  repeat' split
  all_goals first | (exfalso; omega) | rfl
theorem MS (n b0 b1 b2 b3 lo hi : Nat) : Lib.slowN n b0 b1 b2 b3 4 lo hi = if (1 < n ∧ lo ≤ b1 ∧ b1 ≤ hi) ∧ (2 < n ∧ 128 ≤ b2 ∧ b2 ≤ 191) ∧ 3 < n ∧ 128 ≤ b3 ∧ b3 ≤ 191 then (b0 % 8 * 262144 + b1 % 64 * 4096 + b2 % 64 * 64 + b3 % 64, 4) else (65533, 1) := by
  unfold Lib.slowN
  repeat' split
  all_goals first | (exfalso; omega) | rfl

/- The document's way. -/
theorem JT (s : List UInt8) (k lo hi : Nat) : B3 s (k : Int) (lo : Int) (hi : Int) = some (decide (k < s.length ∧ lo ≤ (s.getD k 0).toNat ∧ (s.getD k 0).toNat ≤ hi)) := by
  unfold B3 B3.j1
  by_cases q : k < s.length
  · rw [if_pos (decide_eq_true (by omega)), if_pos (by omega), show ((k : Nat) : Int).toNat = k by omega]
    by_cases q1 : lo ≤ (s.getD k 0).toNat
    · rw [if_pos (decide_eq_true (by omega))]
      by_cases q2 : (s.getD k 0).toNat ≤ hi
      · rw [decide_eq_true (by omega), decide_eq_true ⟨q, q1, q2⟩]
      · rw [decide_eq_false (by omega), decide_eq_false (fun z => q2 z.2.2)]
    · rw [if_neg (by rw [decide_eq_false (by omega)]; decide), decide_eq_false (fun z => q1 z.2.1)]
  · rw [if_neg (by rw [decide_eq_false (by omega)]; decide), decide_eq_false (fun z => q z.1)]
theorem JU (s : List UInt8) (i k lo hi : Nat) (hs : s.length ≤ 100000) (hi' : i < s.length) (hk : k ≤ 3) : B3 s (IntKind.wrap .i64 ((i : Int) + (k : Int))) (lo : Int) (hi : Int) = some (decide (k < s.length - i ∧ lo ≤ (s.getD (i + k) 0).toNat ∧ (s.getD (i + k) 0).toNat ≤ hi)) := by
  rw [FB (by omega), show ((i : Int) + (k : Int)) = ((i + k : Nat) : Int) by omega, JT]
  congr 1
  by_cases q : i + k < s.length ∧ lo ≤ (s.getD (i + k) 0).toNat ∧ (s.getD (i + k) 0).toNat ≤ hi
  · rw [decide_eq_true q, decide_eq_true ⟨by omega, q.2⟩]
  · rw [decide_eq_false q, decide_eq_false (fun z => q ⟨by omega, z.2⟩)]
def Eh (s : List UInt8) (i n0 : Nat) : Nat → Nat
  | 0 => n0
  | j + 1 => Eh s i n0 j * 64 + (s.getD (i + (j + 1)) 0).toNat % 64
theorem Lt (s : List UInt8) (i n0 : Nat) (h : n0 < 32) : ∀ j, j ≤ 3 → Eh s i n0 j < 8388608
  | 0, _ => by unfold Eh; omega
  | 1, _ => by unfold Eh Eh; omega
  | 2, _ => by unfold Eh Eh Eh; omega
  | 3, _ => by unfold Eh Eh Eh Eh; omega
  | j + 4, h => by omega
theorem KN (s : List UInt8) (i m n0 : Nat) (hs : s.length ≤ 100000) (hm : 1 ≤ m) (hm3 : m ≤ 3) (hi : i + m < s.length) (hn : n0 < 32) : AV.j5 s (i : Int) (m : Int) (n0 : Int) = some ((Eh s i n0 m : Int), ((m + 1 : Nat) : Int)) := by
  have h := E5 (R := Int × Int) (body := fun t : Int × Int => AV.b1 s (i : Int) (m : Int) t.1 t.2) (fun j => ((Eh s i n0 j : Int), ((j + 1 : Nat) : Int))) m (fun j hj => by
    show AV.b1 s (i : Int) (m : Int) (Eh s i n0 j : Int) ((j + 1 : Nat) : Int) = some (.cont ((Eh s i n0 (j + 1) : Int), ((j + 1 + 1 : Nat) : Int)))
    have hb := Lt s i n0 hn j (by omega)
    have hc : (s.getD (i + (j + 1)) 0).toNat < 256 := (s.getD (i + (j + 1)) 0).toNat_lt
    have ea : Eh s i n0 (j + 1) = Eh s i n0 j * 64 + (s.getD (i + (j + 1)) 0).toNat % 64 := rfl
    have et : (((s.getD (i + (j + 1)) 0).toNat : Nat) : Int).tmod 64 = (((s.getD (i + (j + 1)) 0).toNat % 64 : Nat) : Int) := rfl
    unfold AV.b1
    rw [if_pos (decide_eq_true (by omega)), FB (x := (i : Int) + ((j + 1 : Nat) : Int)) (by omega), if_pos (by omega), show ((i : Int) + ((j + 1 : Nat) : Int)).toNat = i + (j + 1) by omega, FB (x := (Eh s i n0 j : Int) * 64) (by omega), FB (x := (((s.getD (i + (j + 1)) 0).toNat : Nat) : Int)) (by omega), et, FB (x := (Eh s i n0 j : Int) * 64 + _) (by omega), FB (by omega), ea]
    congr 3) ((Eh s i n0 m : Int), ((m + 1 : Nat) : Int)) (by
    show AV.b1 s (i : Int) (m : Int) (Eh s i n0 m : Int) ((m + 1 : Nat) : Int) = _
    unfold AV.b1
    rw [if_neg (by rw [decide_eq_false (by omega)]; decide)]) m 0 (((m : Int) - 1 : Int).toNat + 2) (by omega) (by omega)
  refine CC h ?_
  show some (_, IntKind.wrap .i64 ((m : Int) + 1)) = _
  rw [FB (by omega)]
  rfl
theorem Gf (s : List UInt8) (i : Nat) (m : Int) : AV.j3 s (i : Int) m true = some ((((s.getD i 0).toNat + 2000000 : Nat) : Int), 1) := by
  have hc : (s.getD i 0).toNat < 256 := (s.getD i 0).toNat_lt
  unfold AV.j3
  rw [if_pos rfl, show ((i : Nat) : Int).toNat = i by omega, FB (x := (((s.getD i 0).toNat : Nat) : Int)) (by omega), FB (by omega)]
  rfl
theorem Im (s : List UInt8) (i m : Nat) (hs : s.length ≤ 100000) (hm : 1 ≤ m) (hm3 : m ≤ 3) (hi : i + m < s.length) : AV.j3 s (i : Int) (m : Int) false = some ((Eh s i ((s.getD i 0).toNat % (if m = 1 then 32 else if m = 2 then 16 else 8)) m : Int), ((m + 1 : Nat) : Int)) := by
  have hc : (s.getD i 0).toNat < 256 := (s.getD i 0).toNat_lt
  have t8 : (((s.getD i 0).toNat : Nat) : Int).tmod 8 = (((s.getD i 0).toNat % 8 : Nat) : Int) := rfl
  have t16 : (((s.getD i 0).toNat : Nat) : Int).tmod 16 = (((s.getD i 0).toNat % 16 : Nat) : Int) := rfl
  have t32 : (((s.getD i 0).toNat : Nat) : Int).tmod 32 = (((s.getD i 0).toNat % 32 : Nat) : Int) := rfl
  unfold AV.j3 AV.j4
  rw [if_neg (by decide), show ((i : Nat) : Int).toNat = i by omega, FB (x := (((s.getD i 0).toNat : Nat) : Int)) (by omega), t8, t16, t32]
  by_cases q2 : m = 2
  · subst q2
    rw [if_pos (by decide), if_neg (by decide), if_neg (by decide), if_pos rfl]
    exact KN s i 2 _ hs hm hm3 hi (by omega)
  · by_cases q3 : m = 3
    · subst q3
      rw [if_neg (by decide), if_pos (by decide), if_neg (by decide), if_neg (by decide)]
      exact KN s i 3 _ hs hm hm3 hi (by omega)
    · have q1 : m = 1 := by omega
      subst q1
      rw [if_neg (by decide), if_neg (by decide), if_pos rfl]
      exact KN s i 1 _ hs hm hm3 hi (by omega)
section
variable (s : List UInt8) (i : Nat) (hs : s.length ≤ 100000) (hi : i < s.length) (lo up : Nat)
include hs hi
theorem NU : AV.j2 s (i : Int) (lo : Int) (up : Int) 1 = some (oneOf (s.getD i 0).toNat (Lib.slowN (s.length - i) (s.getD i 0).toNat (s.getD (i + 1) 0).toNat (s.getD (i + 2) 0).toNat (s.getD (i + 3) 0).toNat 2 lo up)) := by
  have w1 := JU s i 1 lo up hs hi (by omega)
  rw [MU]
  unfold AV.j2
  rw [if_neg (by decide)]
  refine AL w1 ?_
  by_cases q : 1 < s.length - i ∧ lo ≤ (s.getD (i + 1) 0).toNat ∧ (s.getD (i + 1) 0).toNat ≤ up
  · rw [decide_eq_true q, if_neg (by decide), if_neg (by decide), if_neg (by decide), if_pos q, Ge _ _ _ (by decide)]
    exact Im s i 1 hs (by omega) (by omega) (by omega)
  · rw [decide_eq_false q, if_pos (show (!false) = true from rfl), if_neg q, Er]
    exact Gf s i 1
theorem NT : AV.j2 s (i : Int) (lo : Int) (up : Int) 2 = some (oneOf (s.getD i 0).toNat (Lib.slowN (s.length - i) (s.getD i 0).toNat (s.getD (i + 1) 0).toNat (s.getD (i + 2) 0).toNat (s.getD (i + 3) 0).toNat 3 lo up)) := by
  have w1 := JU s i 1 lo up hs hi (by omega)
  have w2 := JU s i 2 128 191 hs hi (by omega)
  rw [MT]
  unfold AV.j2
  rw [if_neg (by decide)]
  refine AL w1 ?_
  by_cases q : 1 < s.length - i ∧ lo ≤ (s.getD (i + 1) 0).toNat ∧ (s.getD (i + 1) 0).toNat ≤ up
  · rw [decide_eq_true q, if_neg (by decide), if_pos (by decide)]
    refine AL w2 ?_
    by_cases q2 : 2 < s.length - i ∧ 128 ≤ (s.getD (i + 2) 0).toNat ∧ (s.getD (i + 2) 0).toNat ≤ 191
    · rw [decide_eq_true q2, if_neg (by decide), if_neg (by decide), if_pos ⟨q, q2⟩, Ge _ _ _ (by decide)]
      refine (Im s i 2 hs (by omega) (by omega) (by omega)).trans ?_
      rw [if_neg (by decide), if_pos rfl]
      unfold Eh Eh Eh
      congr 3
      simp only [Nat.zero_add, Nat.reduceAdd]
      omega
    · rw [decide_eq_false q2, if_pos (show (!false) = true from rfl), if_neg (fun z => q2 z.2), Er]
      exact Gf s i 2
  · rw [decide_eq_false q, if_pos (show (!false) = true from rfl), if_neg (fun z => q z.1), Er]
    exact Gf s i 2
theorem NS : AV.j2 s (i : Int) (lo : Int) (up : Int) 3 = some (oneOf (s.getD i 0).toNat (Lib.slowN (s.length - i) (s.getD i 0).toNat (s.getD (i + 1) 0).toNat (s.getD (i + 2) 0).toNat (s.getD (i + 3) 0).toNat 4 lo up)) := by
  have w1 := JU s i 1 lo up hs hi (by omega)
  have w2 := JU s i 2 128 191 hs hi (by omega)
  have w3 := JU s i 3 128 191 hs hi (by omega)
  rw [MS]
  unfold AV.j2
  rw [if_neg (by decide)]
  refine AL w1 ?_
  by_cases q : 1 < s.length - i ∧ lo ≤ (s.getD (i + 1) 0).toNat ∧ (s.getD (i + 1) 0).toNat ≤ up
  · rw [decide_eq_true q, if_neg (by decide), if_pos (by decide)]
    refine AL w2 ?_
    by_cases q2 : 2 < s.length - i ∧ 128 ≤ (s.getD (i + 2) 0).toNat ∧ (s.getD (i + 2) 0).toNat ≤ 191
    · rw [decide_eq_true q2, if_neg (by decide), if_pos (by decide)]
      refine AL w3 ?_
      by_cases q3 : 3 < s.length - i ∧ 128 ≤ (s.getD (i + 3) 0).toNat ∧ (s.getD (i + 3) 0).toNat ≤ 191
      · rw [decide_eq_true q3, if_pos ⟨q, q2, q3⟩, Ge _ _ _ (by decide)]
        refine (Im s i 3 hs (by omega) (by omega) (by omega)).trans ?_
        rw [if_neg (by decide), if_neg (by decide)]
        unfold Eh Eh Eh Eh
        congr 3
        simp only [Nat.zero_add, Nat.reduceAdd]
        omega
      · rw [decide_eq_false q3, if_neg (fun z => q3 z.2.2), Er]
        exact Gf s i 3
    · rw [decide_eq_false q2, if_pos (show (!false) = true from rfl), if_neg (fun z => q2 z.2.1), Er]
      exact Gf s i 3
  · rw [decide_eq_false q, if_pos (show (!false) = true from rfl), if_neg (fun z => q z.1), Er]
    exact Gf s i 3
end
theorem Ll (s : List UInt8) (i : Nat) (hs : s.length ≤ 100000) (hi : i < s.length) : AV s (i : Int) = some ((JY (s.drop i) : Int), ((Lib.decodeL (s.drop i)).2 : Int)) := by
  have g : ∀ k, (s.drop i).getD k 0 = s.getD (i + k) 0 := fun k => by simp [List.getD, List.getElem?_drop]
  have hD := Lib.decodeL_N (s.drop i)
  rw [g 0, g 1, g 2, g 3, List.length_drop, Nat.add_zero] at hD
  have hR : ((JY (s.drop i) : Int), ((Lib.decodeL (s.drop i)).2 : Int)) = oneOf (s.getD i 0).toNat (Lib.decodeL (s.drop i)) := by
    unfold JY oneOf
    rw [g 0, Nat.add_zero]
    rfl
  rw [hR, hD]
  have h0 : (s.getD i 0).toNat < 256 := (s.getD i 0).toNat_lt
  have h1 : (s.getD (i + 1) 0).toNat < 256 := (s.getD (i + 1) 0).toNat_lt
  have h2 : (s.getD (i + 2) 0).toNat < 256 := (s.getD (i + 2) 0).toNat_lt
  have h3 : (s.getD (i + 3) 0).toNat < 256 := (s.getD (i + 3) 0).toNat_lt
  have J1 := NU s i hs hi
  have J2 := NT s i hs hi
  have J3 := NS s i hs hi
  have J0 : AV.j2 s (i : Int) 128 191 0 = some (oneOf (s.getD i 0).toNat (65533, 1)) := by
    unfold AV.j2
    rw [if_pos (by decide), Er]
    exact Gf s i 0
  have hn : 1 ≤ s.length - i := by omega
  unfold AV
  rw [if_pos (by omega), show ((i : Nat) : Int).toNat = i by omega]
  unfold AV.j1 AV.j6 AV.j7 AV.j8 AV.j9
  rw [show ((i : Nat) : Int).toNat = i by omega]
  generalize (s.getD i 0).toNat = b0 at *
  generalize (s.getD (i + 1) 0).toNat = b1 at *
  generalize (s.getD (i + 2) 0).toNat = b2 at *
  generalize (s.getD (i + 3) 0).toNat = b3 at *
  generalize s.length - i = n at *
  by_cases c1 : b0 < 128
  · have e : Lib.decodeN n b0 b1 b2 b3 = (b0, 1) := by unfold Lib.decodeN; rw [if_pos c1]
    rw [if_pos (decide_eq_true (by omega)), e, FB (by omega)]
    unfold oneOf
    rw [if_neg (by show ¬ (b0 = 65533 ∧ 1 = 1); omega)]
    rfl
  rw [if_neg (by rw [decide_eq_false (by omega)]; decide)]
  by_cases c2 : b0 < 194
  · have e := Lib.bad_eq n b0 b1 b2 b3 h0 (by unfold Lib.firstT; rw [if_neg c1, if_pos c2])
    rw [if_neg (by rw [decide_eq_false (by omega)]; decide), if_neg (by decide), if_neg (by rw [decide_eq_false (by omega)]; decide), if_neg (by decide), if_neg (by rw [decide_eq_false (by omega)]; decide), if_neg (by decide), e]
    exact J0
  rw [if_pos (decide_eq_true (by omega))]
  by_cases c3 : b0 < 224
  · rw [if_pos (decide_eq_true (by omega)), ← Lib.slow_C2 n b0 b1 b2 b3 hn h1 h2 h3 (by omega)]
    exact J1 128 191
  rw [if_neg (by rw [decide_eq_false (by omega)]; decide), if_pos (decide_eq_true (by omega))]
  by_cases c4 : b0 < 240
  · rw [if_pos (decide_eq_true (by omega))]
    by_cases d1 : b0 = 224
    · rw [if_pos (decide_eq_true (by omega)), if_neg (by rw [decide_eq_false (by omega)]; decide), ← Lib.slow_E0 n b0 b1 b2 b3 hn h1 h2 h3 d1]
      exact J2 160 191
    · rw [if_neg (by rw [decide_eq_false (by omega)]; decide)]
      by_cases d2 : b0 = 237
      · rw [if_pos (decide_eq_true (by omega)), ← Lib.slow_ED n b0 b1 b2 b3 hn h1 h2 h3 d2]
        exact J2 128 159
      · rw [if_neg (by rw [decide_eq_false (by omega)]; decide), ← Lib.slow_E1 n b0 b1 b2 b3 hn h1 h2 h3 (by omega)]
        exact J2 128 191
  rw [if_neg (by rw [decide_eq_false (by omega)]; decide), if_pos (decide_eq_true (by omega))]
  by_cases c5 : b0 ≤ 244
  · rw [if_pos (decide_eq_true (by omega))]
    by_cases d1 : b0 = 240
    · rw [if_pos (decide_eq_true (by omega)), if_neg (by rw [decide_eq_false (by omega)]; decide), ← Lib.slow_F0 n b0 b1 b2 b3 hn h1 h2 h3 d1]
      exact J3 144 191
    · rw [if_neg (by rw [decide_eq_false (by omega)]; decide)]
      by_cases d2 : b0 = 244
      · rw [if_pos (decide_eq_true (by omega)), ← Lib.slow_F4 n b0 b1 b2 b3 hn h1 h2 h3 d2]
        exact J3 128 143
      · rw [if_neg (by rw [decide_eq_false (by omega)]; decide), ← Lib.slow_F1 n b0 b1 b2 b3 hn h1 h2 h3 (by omega)]
        exact J3 128 191
  · have e := Lib.bad_eq n b0 b1 b2 b3 h0 (by unfold Lib.firstT; rw [if_neg c1, if_neg c2, if_neg c3, if_neg (by omega), if_neg (by omega), if_neg (by omega), if_neg c4, if_neg (by omega), if_neg (by omega), if_neg (by omega)])
    rw [if_neg (by rw [decide_eq_false (by omega)]; decide), e]
    exact J0
end

section
set_option linter.unusedVariables false
set_option linter.unusedSimpArgs false

theorem N4 (l : List UInt8) : (Lib.decodeL l).2 ≤ 4 := by
  rw [Lib.decodeL_N]
  unfold Lib.decodeN
  repeat' split
  all_goals simp
theorem JC : ∀ (k : Nat) (l : List UInt8), l.length ≤ k → (DG l).length ≤ l.length ∧ ∀ n ∈ DG l, n < 2000256
  | k, [], _ => by rw [GG]; exact ⟨Nat.le_refl _, fun n h => by cases h⟩
  | 0, a :: t, h => by simp at h
  | k + 1, a :: t, h => by
    have hne : a :: t ≠ [] := List.cons_ne_nil _ _
    have h1 := Lib.decodeL_width (a :: t)
    rw [FW hne]
    have h4 : 0 < (a :: t).length := by simp
    have h3 := JC k ((a :: t).drop (Lib.decodeL (a :: t)).2) (by rw [List.length_drop]; omega)
    refine ⟨?_, List.forall_mem_cons.2 ⟨Kv _, h3.2⟩⟩
    have := h3.1
    rw [List.length_drop] at this
    rw [List.length_cons]
    omega
def iN (n : Nat) : Int := (n : Int)
theorem Mm (s : List UInt8) (hs : s.length ≤ 100000) : B5 s = some ((DG s).map iN) := by
  unfold B5
  obtain ⟨c, h1, h2⟩ := FX (body := fun t : Int × List Int => B5.b1 s t.1 t.2)
    (fun t => ∃ (p : Nat) (l : List Int), t = ((p : Int), l) ∧ l.length ≤ p ∧ p ≤ s.length + 4 ∧ l ++ (DG (s.drop p)).map iN = (DG s).map iN)
    (fun c => match c with | .next t => t.2 = (DG s).map iN | .ret _ => False) (fun t => s.length - t.1.toNat)
    (fun t ⟨p, l, ht, hlp, hps, hx⟩ => by
      subst ht
      by_cases hp : p < s.length
      · have hne : s.drop p ≠ [] := by
          intro h0
          have := congrArg List.length h0
          rw [List.length_drop] at this
          simp at this
          omega
        have hw := Lib.decodeL_width (s.drop p)
        have hw4 := N4 (s.drop p)
        rw [FW hne, List.map_cons] at hx
        refine .inl ⟨(((p + (Lib.decodeL (s.drop p)).2 : Nat) : Int), l ++ [iN (JY (s.drop p))]), ?_, ⟨_, _, rfl, ?_, by omega, ?_⟩, ?_⟩
        · show B5.b1 s (p : Int) l = _
          unfold B5.b1
          rw [if_pos (decide_eq_true (by omega))]
          refine AL (Ll s p hs hp) ?_
          rw [if_pos ⟨by show l.length + 1 ≤ Bw; unfold Bw; omega, by show (l.length + 1) * 8 ≤ _; omega⟩]
          show some (Ds.cont (IntKind.wrap .i64 ((p : Int) + ((Lib.decodeL (s.drop p)).2 : Int)), _)) = _
          rw [FB (by omega)]
          rfl
        · rw [List.length_append]; show l.length + 1 ≤ _; omega
        · rw [List.append_assoc, ← hx, List.drop_drop]; rfl
        · show s.length - ((p + (Lib.decodeL (s.drop p)).2 : Nat) : Int).toNat < s.length - ((p : Nat) : Int).toNat
          omega
      · refine .inr (.inl ⟨((p : Int), l), ?_, ?_⟩)
        · show B5.b1 s (p : Int) l = _
          unfold B5.b1
          rw [if_neg (by rw [decide_eq_false (by omega)]; decide)]
        · rw [List.drop_eq_nil_of_le (by omega), GG] at hx
          show l = _
          rw [← hx]
          simp) (((s.length : Int) - 0 : Int).toNat + 2) (0, []) ⟨0, [], rfl, Nat.le_refl _, by omega, by rw [List.drop_zero, List.nil_append]⟩ (by show s.length - (0 : Int).toNat < _; omega)
  cases c with
  | ret _ => exact h2.elim
  | next t => exact CC h1 (congrArg some h2)

/- A quoted text. -/
theorem uo {R : Nat} (h : R < 256) : Dn (IntKind.wrap .u8 (R : Int)) = UInt8.ofNat R := by rw [MR (by omega)]; rfl
theorem Ky (ns : List Int) (b : List UInt8) (i R : Nat) (hi : i < ns.length) (hR : ns.getD i default = (R : Int)) (hn : R < 2000256) (hc : i < 1000000) (hb : b.length ≤ 140737488355328) :
    Bg.b1 ns b (i : Int) = some (.cont (b ++ EL R, ((i + 1 : Nat) : Int))) := by
  have lA : ∀ (a b : List UInt8), (a ++ b).length = a.length + b.length := fun a b => List.length_append
  have end2 : ∀ x : List UInt8, x = b ++ EL R → Bg.j2 (i : Int) x = some (.cont (b ++ EL R, ((i + 1 : Nat) : Int))) := by
    intro x hx
    subst hx
    unfold Bg.j2
    rw [FB (by omega)]
    rfl
  have quoted : (R = 34 ∨ R = 92) → Bg.j1 ns b (i : Int) true = some (.cont (b ++ EL R, ((i + 1 : Nat) : Int))) := by
    intro e2
    have e3 : EL R = [92, UInt8.ofNat R] := by unfold EL; rw [if_pos e2]
    unfold Bg.j1
    rw [if_pos rfl, show ((i : Nat) : Int).toNat = i by omega, hR, uo (by omega), if_pos (by show b.length + 1 ≤ Bw; unfold Bw; omega), if_pos (by rw [lA]; show b.length + 1 + 1 ≤ Bw; unfold Bw; omega)]
    exact end2 _ (by rw [e3, List.append_assoc]; rfl)
  have plainly : 32 ≤ R ∧ R ≤ 126 → ¬ (R = 34 ∨ R = 92) → Bg.j3 ns b (i : Int) true = some (.cont (b ++ EL R, ((i + 1 : Nat) : Int))) := by
    intro e1 e2
    have e3 : EL R = [UInt8.ofNat R] := by unfold EL; rw [if_neg e2, if_pos e1]
    unfold Bg.j3
    rw [if_pos rfl, show ((i : Nat) : Int).toNat = i by omega, hR, uo (by omega), if_pos (by show b.length + 1 ≤ Bw; unfold Bw; omega)]
    exact end2 _ (by rw [e3])
  have told : ¬ (32 ≤ R ∧ R ≤ 126) → Bg.j3 ns b (i : Int) false = some (.cont (b ++ EL R, ((i + 1 : Nat) : Int))) := by
    intro e1
    unfold Bg.j3
    rw [if_neg (by decide), show ((i : Nat) : Int).toNat = i by omega, hR]
    by_cases q : 2000000 ≤ R
    · have e3 : EL R = [92, 120] ++ Ed (R - 2000000) ++ [59] := by unfold EL; rw [if_neg (by omega), if_neg e1, if_pos q]
      have hl := EC 5 (R - 2000000) (by omega)
      rw [if_pos (decide_eq_true (by omega)), if_pos (by show b.length + 2 ≤ Bw; unfold Bw; omega), FB (by omega), show (R : Int) - 2000000 = ((R - 2000000 : Nat) : Int) by omega]
      refine AL (KR _ (by omega)) ?_
      rw [if_pos (by rw [lA]; show b.length + 2 + _ ≤ Bw; unfold Bw; omega), if_pos (by rw [lA, lA]; show b.length + 2 + _ + 1 ≤ Bw; unfold Bw; omega)]
      exact end2 _ (by rw [e3]; simp only [List.append_assoc])
    · have e3 : EL R = [92, 117] ++ Ed R ++ [59] := by unfold EL; rw [if_neg (by omega), if_neg e1, if_neg q]
      have hl := EC 5 R (by omega)
      rw [if_neg (by rw [decide_eq_false (by omega)]; decide), if_pos (by show b.length + 2 ≤ Bw; unfold Bw; omega)]
      refine AL (KR _ (by omega)) ?_
      rw [if_pos (by rw [lA]; show b.length + 2 + _ ≤ Bw; unfold Bw; omega), if_pos (by rw [lA, lA]; show b.length + 2 + _ + 1 ≤ Bw; unfold Bw; omega)]
      exact end2 _ (by rw [e3]; simp only [List.append_assoc])
  unfold Bg.b1
  rw [if_pos (decide_eq_true (by omega)), if_pos (by omega), show ((i : Nat) : Int).toNat = i by omega, hR]
  by_cases q1 : R = 34
  · rw [if_pos (decide_eq_true (by omega))]; exact quoted (.inl q1)
  · rw [if_neg (by rw [decide_eq_false (by omega)]; decide)]
    by_cases q2 : R = 92
    · rw [decide_eq_true (by omega)]; exact quoted (.inr q2)
    · rw [decide_eq_false (by omega)]
      unfold Bg.j1
      rw [if_neg (by decide), show ((i : Nat) : Int).toNat = i by omega, hR]
      by_cases q3 : 32 ≤ R
      · rw [if_pos (decide_eq_true (by omega))]
        by_cases q4 : R ≤ 126
        · rw [decide_eq_true (by omega)]; exact plainly ⟨q3, q4⟩ (by omega)
        · rw [decide_eq_false (by omega)]; exact told (by omega)
      · rw [if_neg (by rw [decide_eq_false (by omega)]; decide)]; exact told (by omega)
theorem q30 (s : List UInt8) (hs : s.length ≤ 100000) : Bg s = some (ID s) := by
  obtain ⟨k1, k2⟩ := JC _ s (Nat.le_refl _)
  have hl : ∀ i, (([34] : List UInt8) ++ ((DG s).take i).flatMap EL).length ≤ 1 + 9 * (DG s).length := fun i => by
    rw [List.length_append]
    exact Nat.add_le_add_left (Hs (fun x hx => JN x (k2 x hx)) i) 1
  have hg : ∀ i, i < (DG s).length → ((DG s).map iN).getD i default = (((DG s).getD i default : Nat) : Int) := fun i hi => by
    simp [List.getD, hi, iN]
  have h := E5 (R := List UInt8) (body := fun t : (List UInt8) × Int => Bg.b1 ((DG s).map iN) t.1 t.2) (fun i => (([34] : List UInt8) ++ ((DG s).take i).flatMap EL, (i : Int))) (DG s).length (fun i hi => by
    have := hl i
    show Bg.b1 ((DG s).map iN) (([34] : List UInt8) ++ ((DG s).take i).flatMap EL) (i : Int) = some (.cont (([34] : List UInt8) ++ ((DG s).take (i + 1)).flatMap EL, ((i + 1 : Nat) : Int)))
    rw [Ky _ _ i _ (by rw [List.length_map]; exact hi) (hg i hi) (k2 _ (get_mem hi)) (by omega) (by omega), Gm _ EL i hi, List.append_assoc]) (([34] : List UInt8) ++ (DG s).flatMap EL, ((DG s).length : Int)) (by
    show Bg.b1 ((DG s).map iN) (([34] : List UInt8) ++ ((DG s).take (DG s).length).flatMap EL) ((DG s).length : Int) = _
    unfold Bg.b1
    rw [if_neg (by rw [List.length_map, decide_eq_false (by omega)]; decide), List.take_length]) (DG s).length 0 (((((DG s).map iN).length : Int) - 0 : Int).toNat + 2) (by omega) (by rw [List.length_map]; omega)
  unfold Bg
  refine AL (Mm s hs) (CC h ?_)
  have := hl (DG s).length
  rw [List.take_length] at this
  show (if _ then _ else _) = _
  rw [if_pos (by show _ + 1 ≤ Bw; unfold Bw; omega)]
  rfl
theorem Kz (s : List UInt8) (hs : s.length ≤ 100000) : E0 s = some (ID s) := AL (q30 s hs) rfl

/- An event. -/
theorem Lg : ∀ n : Fin 10, (([[112, 97, 105, 100], [100, 105, 115, 112, 97, 116, 99, 104, 101, 100], [117, 112, 100, 97, 116, 101, 100], [115, 108, 97, 115, 104, 101, 100], [97, 99, 99, 101, 112, 116, 101, 100], [115, 116, 111, 112, 112, 101, 100], [98, 114, 111, 107, 101, 110], [112, 114, 111, 118, 101, 110], [112, 114, 111, 99, 101, 115, 115, 101, 100], [115, 97, 105, 100]] : List (List UInt8)).getD n.val default) = DV.getD (n.val + 1) default := by decide +kernel
theorem Ou (e : Ap) (h1 : e.Bb.length ≤ 2000) (h2 : Db .u64 e.BB) : BU e = some (Hl e) := by
  have hk := (Il e.Bv).1
  have hq := EH e.Bb
  have hn := Dd (D0 h2).2
  have key : BU.j2 e (I3 e.Bv) = some (Hl e) := by
    unfold BU.j2
    have lA : ∀ (a b : List UInt8), (a ++ b).length = a.length + b.length := fun a b => List.length_append
    have l6 : ([101, 118, 101, 110, 116, 32] : List UInt8).length = 6 := rfl
    have l1 : ([32] : List UInt8).length = 1 := rfl
    rw [if_pos (by unfold Bw; omega), if_pos (by rw [lA]; unfold Bw; omega)]
    refine AL (Kz _ (by omega)) ?_
    rw [if_pos (by rw [lA, lA]; unfold Bw; omega), if_pos (by rw [lA, lA, lA]; unfold Bw; omega)]
    refine AL (Kj (D0 h2)) ?_
    rw [if_pos (by rw [lA, lA, lA, lA]; unfold Bw; omega)]
    rfl
  have none' : ¬ (0 < e.Bv ∧ e.Bv < 11) → BU.j1 e false = some (Hl e) := by
    intro q
    have : I3 e.Bv = [110, 111, 110, 101] := by unfold I3; rw [if_neg q]; rfl
    unfold BU.j1
    rw [if_neg (by decide), ← this]
    exact key
  unfold BU
  by_cases q : 1 ≤ e.Bv
  · rw [if_pos (decide_eq_true q)]
    by_cases q2 : e.Bv ≤ 10
    · have w := Lg ⟨(e.Bv - 1).toNat, by omega⟩
      have w : (([[112, 97, 105, 100], [100, 105, 115, 112, 97, 116, 99, 104, 101, 100], [117, 112, 100, 97, 116, 101, 100], [115, 108, 97, 115, 104, 101, 100], [97, 99, 99, 101, 112, 116, 101, 100], [115, 116, 111, 112, 112, 101, 100], [98, 114, 111, 107, 101, 110], [112, 114, 111, 118, 101, 110], [112, 114, 111, 99, 101, 115, 115, 101, 100], [115, 97, 105, 100]] : List (List UInt8)).getD (e.Bv - 1).toNat default) = DV.getD ((e.Bv - 1).toNat + 1) default := w
      have : I3 e.Bv = DV.getD ((e.Bv - 1).toNat + 1) default := by unfold I3; rw [if_pos ⟨by omega, by omega⟩, show e.Bv.toNat = (e.Bv - 1).toNat + 1 by omega]
      rw [decide_eq_true q2]
      unfold BU.j1
      rw [if_pos rfl, FB (by omega), if_pos ⟨by omega, by show e.Bv - 1 < 10; omega⟩, w, ← this]
      exact key
    · rw [decide_eq_false q2]
      exact none' (by omega)
  · rw [if_neg (by rw [decide_eq_false q]; decide)]
    exact none' (by omega)

/- A token's two sums. -/
theorem II (a b : Int) : Ee a b = some (Gn a b) := by
  unfold Ee Gn
  by_cases q : a < b
  · rw [if_pos (decide_eq_true q), if_pos q]
  · rw [if_neg (by rw [decide_eq_false q]; decide), if_neg q]
theorem o30 (t : Aw) : FU t = some (Gn t.BO t.BQ, Gn t.BP t.Bx) := AL (II _ _) (AL (II _ _) rfl)
end

section
set_option linter.unusedVariables false
set_option linter.unusedSimpArgs false

theorem BV {α : Type} {c : Prop} [Decidable c] {a b r : α} (h : c) (h2 : a = r) : (if c then a else b) = r := by rw [if_pos h]; exact h2
theorem HF {α : Type} {c : Prop} [Decidable c] {a b r : α} (h : ¬ c) (h2 : b = r) : (if c then a else b) = r := by rw [if_neg h]; exact h2
/- A loop that says a line for each of a list. -/
theorem GU {R α : Type} [Inhabited α] (l : List α) (body : List UInt8 → Int → Option (Ds R (List UInt8 × Int))) (g : α → List UInt8) (hn : l.length ≤ 10000) (hg : ∀ x ∈ l, (g x).length ≤ 300000)
    (hb : ∀ i, i < l.length → ∀ b : List UInt8, b.length ≤ 70368744177664 → body b (i : Int) = some (.cont (b ++ g (l.getD i default), ((i + 1 : Nat) : Int))))
    (he : ∀ b, body b (l.length : Int) = some (.brk (b, (l.length : Int)))) (b : List UInt8) (hbl : b.length ≤ 30000000000000) :
    Cs (fun s : List UInt8 × Int => body s.1 s.2) (((l.length : Int) - 0 : Int).toNat + 2) (b, 0) = some (.next (b ++ l.flatMap g, (l.length : Int))) := by
  have hk : ∀ i, ((l.take i).flatMap g).length ≤ 3000000000 := fun i => by
    have h1 := Hs hg i
    have h2 : 300000 * l.length ≤ 300000 * 10000 := Nat.mul_le_mul_left _ hn
    omega
  have h := E5 (body := fun s : List UInt8 × Int => body s.1 s.2) (fun i => (b ++ (l.take i).flatMap g, (i : Int))) l.length (fun i hi => by
    have := hk i
    show body (b ++ (l.take i).flatMap g) (i : Int) = some (.cont (b ++ (l.take (i + 1)).flatMap g, ((i + 1 : Nat) : Int)))
    rw [hb i hi _ (by rw [List.length_append]; omega), Gm l g i hi, List.append_assoc]) (b ++ l.flatMap g, (l.length : Int)) (by
    show body (b ++ (l.take l.length).flatMap g) (l.length : Int) = _
    rw [he, List.take_length]) l.length 0 (((l.length : Int) - 0 : Int).toNat + 2) (by omega) (by omega)
  rw [← h]
  congr 1
  show _ = (b ++ (l.take 0).flatMap g, ((0 : Nat) : Int))
  rw [List.take_zero, List.flatMap_nil, List.append_nil]
  rfl
/- One that says the last ten. -/
theorem J8 {α : Type} [Inhabited α] (l : List α) (g : α → List UInt8) (k i : Nat) (h : i < l.length) : ((l.take (i + 1)).drop k).flatMap g = ((l.take i).drop k).flatMap g ++ if k ≤ i then g (l.getD i default) else [] := by
  have e : l.getD i default = l[i] := by simp [List.getD, h]
  have hl : (l.take i).length = i := by rw [List.length_take]; omega
  rw [List.take_add_one, List.getElem?_eq_getElem h, List.drop_append, hl, List.flatMap_append, e]
  by_cases q : k ≤ i
  · rw [if_pos q, show k - i = 0 by omega]; simp
  · rw [if_neg q, show k - i = (k - i - 1) + 1 by omega]; simp
theorem KM {α : Type} {l : List α} {g : α → List UInt8} (hn : l.length ≤ 10000) (hg : ∀ x ∈ l, (g x).length ≤ 300000) (k i : Nat) : (((l.take i).drop k).flatMap g).length ≤ 3000000000 :=
  LD (by rw [List.length_drop, List.length_take]; omega) fun x hx => hg x (List.mem_of_mem_take (List.mem_of_mem_drop hx))

theorem acS (a : Aq) (b : List UInt8) : ((((((b ++ [97, 99, 99, 111, 117, 110, 116, 32]) ++ (ID a.Bb)) ++ [32, 99, 111, 105, 110, 115, 32]) ++ (tx a.Di)) ++ [32, 110, 111, 110, 99, 101, 32]) ++ (tx a.Dh)) ++ [10] = b ++ sy (Lc a) := by unfold sy Lc; simp only [Lib.join_cons, Lib.joinTail, List.map_cons, List.map_nil, List.flatten_cons, List.flatten_nil, List.append_assoc, List.cons_append, List.nil_append, List.append_nil]
theorem tkS (a : Aw) (b : List UInt8) : ((((((((((b ++ [116, 111, 107, 101, 110, 32]) ++ (tx a.Bp)) ++ [32]) ++ (ID a.Bb)) ++ [32, 99, 97, 112, 32]) ++ (tx a.Dq)) ++ [32, 108, 111, 99, 107, 101, 100, 32]) ++ (tx (Gn a.BP a.Bx))) ++ [32, 109, 105, 110, 116, 101, 100, 32]) ++ (tx (Gn a.BO a.BQ))) ++ [10] = b ++ sy (Km a) := by unfold sy Km; simp only [Lib.join_cons, Lib.joinTail, List.map_cons, List.map_nil, List.flatten_cons, List.flatten_nil, List.append_assoc, List.cons_append, List.nil_append, List.append_nil]
theorem hdS (a : Ar) (b : List UInt8) : ((((((((b ++ [104, 111, 108, 100, 115, 32]) ++ (ID a.Cr)) ++ [32]) ++ (tx a.Bp)) ++ [32]) ++ (ID a.Cq)) ++ [32]) ++ (tx a.Ct)) ++ [10] = b ++ sy (Le a) := by unfold sy Le; simp only [Lib.join_cons, Lib.joinTail, List.map_cons, List.map_nil, List.flatten_cons, List.flatten_nil, List.append_assoc, List.cons_append, List.nil_append, List.append_nil]
theorem Oj {c : AK} (h : IH c) (i : Nat) (hi : i < c.Ae.Ao.length) (b : List UInt8) (hb : b.length ≤ 70368744177664) : AM.b1 c b (i : Int) = some (.cont (b ++ sy (Lc (c.Ae.Ao.getD i default)), ((i + 1 : Nat) : Int))) := by
  have ok := h.ac.2 _ (get_mem hi)
  have hn := h.ac.1
  have f1 := EH (c.Ae.Ao.getD i default).Bb
  have f0 := ok.1
  have f2 := Dd (D0 ok.2.2).2
  have f3 := Dd (D0 ok.2.1).2
  unfold AM.b1
  rw [if_pos (decide_eq_true (by omega)), if_pos (by omega), show ((i : Nat) : Int).toNat = i by omega, E6 hi (by omega)]
  refine BV (by simp only [List.length_append, List.length_cons, List.length_nil]; unfold Bw; omega) (AL (Kz _ (by omega)) (BV (by simp only [List.length_append, List.length_cons, List.length_nil]; unfold Bw; omega) ?_))
  refine BV (by simp only [List.length_append, List.length_cons, List.length_nil]; unfold Bw; omega) (AL (Kj (D0 ok.2.2)) (BV (by simp only [List.length_append, List.length_cons, List.length_nil]; unfold Bw; omega) ?_))
  refine BV (by simp only [List.length_append, List.length_cons, List.length_nil]; unfold Bw; omega) (AL (Kj (D0 ok.2.1)) (BV (by simp only [List.length_append, List.length_cons, List.length_nil]; unfold Bw; omega) ?_))
  exact BV (by simp only [List.length_append, List.length_cons, List.length_nil]; unfold Bw; omega) (congrArg (fun x => some (Ds.cont (x, ((i + 1 : Nat) : Int)))) (acS _ b))
theorem NK {c : AK} (h : IH c) (i : Nat) (hi : i < c.Al.At.length) (b : List UInt8) (hb : b.length ≤ 70368744177664) : AM.b2 c b (i : Int) = some (.cont (b ++ sy (Km (c.Al.At.getD i default)), ((i + 1 : Nat) : Int))) := by
  have ok := h.tk.2 _ (get_mem hi)
  have hn := h.tk.1
  have f1 := EH (c.Al.At.getD i default).Bb
  have f0 := ok.1
  have f2 := Dd (x := (c.Al.At.getD i default).Bp) (by have := G1 ok.2.1; omega)
  have f3 := Dd (D0 ok.2.2).2
  have f4 := Dd (D0 (EZ (c.Al.At.getD i default).BP (c.Al.At.getD i default).Bx)).2
  have f5 := Dd (D0 (EZ (c.Al.At.getD i default).BO (c.Al.At.getD i default).BQ)).2
  unfold AM.b2
  rw [if_pos (decide_eq_true (by omega)), if_pos (by omega), show ((i : Nat) : Int).toNat = i by omega, E6 hi (by omega)]
  refine AL (o30 _) ?_
  refine BV (by simp only [List.length_append, List.length_cons, List.length_nil]; unfold Bw; omega) (AL (Lu (by have := G1 ok.2.1; omega)) (BV (by simp only [List.length_append, List.length_cons, List.length_nil]; unfold Bw; omega) ?_))
  refine BV (by simp only [List.length_append, List.length_cons, List.length_nil]; unfold Bw; omega) (AL (Kz _ (by omega)) (BV (by simp only [List.length_append, List.length_cons, List.length_nil]; unfold Bw; omega) ?_))
  refine BV (by simp only [List.length_append, List.length_cons, List.length_nil]; unfold Bw; omega) (AL (Kj (D0 ok.2.2)) (BV (by simp only [List.length_append, List.length_cons, List.length_nil]; unfold Bw; omega) ?_))
  refine BV (by simp only [List.length_append, List.length_cons, List.length_nil]; unfold Bw; omega) (AL (Kj (D0 (EZ _ _))) (BV (by simp only [List.length_append, List.length_cons, List.length_nil]; unfold Bw; omega) ?_))
  refine BV (by simp only [List.length_append, List.length_cons, List.length_nil]; unfold Bw; omega) (AL (Kj (D0 (EZ _ _))) (BV (by simp only [List.length_append, List.length_cons, List.length_nil]; unfold Bw; omega) ?_))
  exact BV (by simp only [List.length_append, List.length_cons, List.length_nil]; unfold Bw; omega) (congrArg (fun x => some (Ds.cont (x, ((i + 1 : Nat) : Int)))) (tkS _ b))
theorem NY {c : AK} (h : IH c) (i : Nat) (hi : i < c.Al.Am.length) (b : List UInt8) (hb : b.length ≤ 70368744177664) : AM.b3 c b (i : Int) = some (.cont (b ++ sy (Le (c.Al.Am.getD i default)), ((i + 1 : Nat) : Int))) := by
  have ok := h.hd.2 _ (get_mem hi)
  have hn := h.hd.1
  have f1 := EH (c.Al.Am.getD i default).Cr
  have f0 := ok.1
  have f6 := ok.2.1
  have f2 := Dd (x := (c.Al.Am.getD i default).Bp) (by have := G1 ok.2.2.1; omega)
  have f3 := EH (c.Al.Am.getD i default).Cq
  have f4 := Dd (D0 ok.2.2.2).2
  unfold AM.b3
  rw [if_pos (decide_eq_true (by omega)), if_pos (by omega), show ((i : Nat) : Int).toNat = i by omega, E6 hi (by omega)]
  refine BV (by simp only [List.length_append, List.length_cons, List.length_nil]; unfold Bw; omega) (AL (Kz _ (by omega)) (BV (by simp only [List.length_append, List.length_cons, List.length_nil]; unfold Bw; omega) ?_))
  refine BV (by simp only [List.length_append, List.length_cons, List.length_nil]; unfold Bw; omega) (AL (Lu (by have := G1 ok.2.2.1; omega)) (BV (by simp only [List.length_append, List.length_cons, List.length_nil]; unfold Bw; omega) ?_))
  refine BV (by simp only [List.length_append, List.length_cons, List.length_nil]; unfold Bw; omega) (AL (Kz _ (by omega)) (BV (by simp only [List.length_append, List.length_cons, List.length_nil]; unfold Bw; omega) ?_))
  refine BV (by simp only [List.length_append, List.length_cons, List.length_nil]; unfold Bw; omega) (AL (Kj (D0 ok.2.2.2)) (BV (by simp only [List.length_append, List.length_cons, List.length_nil]; unfold Bw; omega) ?_))
  exact BV (by simp only [List.length_append, List.length_cons, List.length_nil]; unfold Bw; omega) (congrArg (fun x => some (Ds.cont (x, ((i + 1 : Nat) : Int)))) (hdS _ b))
theorem MC {c : AK} (b : List UInt8) : AM.b1 c b (c.Ae.Ao.length : Int) = some (.brk (b, (c.Ae.Ao.length : Int))) ∧ AM.b2 c b (c.Al.At.length : Int) = some (.brk (b, (c.Al.At.length : Int))) ∧
    AM.b3 c b (c.Al.Am.length : Int) = some (.brk (b, (c.Al.Am.length : Int))) := by
  refine ⟨?_, ?_, ?_⟩
  · unfold AM.b1
    exact HF (by rw [decide_eq_false (by omega)]; decide) rfl
  · unfold AM.b2
    exact HF (by rw [decide_eq_false (by omega)]; decide) rfl
  · unfold AM.b3
    exact HF (by rw [decide_eq_false (by omega)]; decide) rfl
end

section
set_option linter.unusedVariables false
set_option linter.unusedSimpArgs false

theorem KO {c : AK} (h : IH c) (b : List UInt8) (hb : b.length ≤ 30000000000000) : AM.j4 c b = some (b ++ (KZ c).flatMap fun e => sy [Hl e]) := by
  have hn := h.ev.1
  have hg : ∀ x ∈ c.Ae.AD, (sy [Hl x]).length ≤ 300000 := fun x hx => Hk (c1 (ge (h.ev.2 x hx)) c0) (by show 1 ≤ 12; omega)
  have hk := KM (l := c.Ae.AD) (g := fun e => sy [Hl e]) (by omega) hg (c.Ae.AD.length - 10)
  have hr := E5 (R := List UInt8) (body := fun s : List UInt8 × Int => AM.b5 c s.1 s.2) (fun i => (b ++ ((c.Ae.AD.take i).drop (c.Ae.AD.length - 10)).flatMap (fun e => sy [Hl e]), (i : Int))) c.Ae.AD.length (fun i hi => by
    have hki := hk i
    have ok := h.ev.2 _ (get_mem hi)
    have hl := JM _ ok.1 ok.2
    show AM.b5 c (b ++ ((c.Ae.AD.take i).drop (c.Ae.AD.length - 10)).flatMap (fun e => sy [Hl e])) (i : Int) = some (.cont (b ++ ((c.Ae.AD.take (i + 1)).drop (c.Ae.AD.length - 10)).flatMap (fun e => sy [Hl e]), ((i + 1 : Nat) : Int)))
    rw [J8 _ _ _ i hi]
    generalize ((c.Ae.AD.take i).drop (c.Ae.AD.length - 10)).flatMap (fun e => sy [Hl e]) = t at hki ⊢
    unfold AM.b5 AM.j5
    rw [if_pos (decide_eq_true (by omega)), if_pos (by omega), show ((i : Nat) : Int).toNat = i by omega, E6 hi (by omega), FB (x := (c.Ae.AD.length : Int) - (i : Int)) (by omega)]
    by_cases q : c.Ae.AD.length - 10 ≤ i
    · rw [if_pos (decide_eq_true (by omega)), if_pos q]
      refine AL (Ou _ ok.1 ok.2) (BV (by rw [List.length_append]; unfold Bw; omega) (BV (by rw [List.length_append, List.length_append]; show _ + 1 ≤ Bw; unfold Bw; omega) ?_))
      rw [List.append_assoc, List.append_assoc]
      unfold sy
      rw [Lib.join_one]
    · rw [if_neg (by rw [decide_eq_false (by omega)]; decide), if_neg q, List.append_nil]) (b ++ (KZ c).flatMap fun e => sy [Hl e], (c.Ae.AD.length : Int)) (by
    show AM.b5 c (b ++ ((c.Ae.AD.take c.Ae.AD.length).drop (c.Ae.AD.length - 10)).flatMap (fun e => sy [Hl e])) (c.Ae.AD.length : Int) = _
    unfold AM.b5
    rw [if_neg (by rw [decide_eq_false (by omega)]; decide), List.take_length]
    rfl) c.Ae.AD.length 0 (((c.Ae.AD.length : Int) - 0 : Int).toNat + 2) (by omega) (by omega)
  have e0 : b ++ ((c.Ae.AD.take 0).drop (c.Ae.AD.length - 10)).flatMap (fun e => sy [Hl e]) = b := by simp
  rw [e0] at hr
  exact CC hr rfl
theorem LG {c : AK} (h : c.Aa.Az.length ≤ 300) :
    Cs (fun s : Int × Int × Int => AM.b4 c s.1 s.2.1 s.2.2) (((c.Aa.Az.length : Int) - 0 : Int).toNat + 2) (0, 0, 0) = some (.next ((LR c : Int), (LZ c : Int), (c.Aa.Az.length : Int))) := by
  refine E5 (R := List UInt8) (body := fun s : Int × Int × Int => AM.b4 c s.1 s.2.1 s.2.2) (fun i => ((((c.Aa.Az.take i).countP (cP 1) : Nat) : Int), (((c.Aa.Az.take i).countP (cP 2) : Nat) : Int), (i : Int))) c.Aa.Az.length (fun i hi => ?_) _ ?_ c.Aa.Az.length 0 _ (by omega) (by omega)
  · have k1 := Ir c.Aa.Az (cP 1) i
    have k2 := Ir c.Aa.Az (cP 2) i
    show AM.b4 c (((c.Aa.Az.take i).countP (cP 1) : Nat) : Int) (((c.Aa.Az.take i).countP (cP 2) : Nat) : Int) (i : Int) = some (.cont ((((c.Aa.Az.take (i + 1)).countP (cP 1) : Nat) : Int), (((c.Aa.Az.take (i + 1)).countP (cP 2) : Nat) : Int), ((i + 1 : Nat) : Int)))
    rw [GO _ _ i hi, GO _ _ i hi]
    unfold AM.b4 AM.j2 AM.j3
    rw [if_pos (decide_eq_true (by omega)), if_pos (by omega), show ((i : Nat) : Int).toNat = i by omega, E6 hi (by omega)]
    by_cases q1 : (c.Aa.Az.getD i default).Dc = 1
    · have p1 : cP 1 (c.Aa.Az.getD i default) = true := decide_eq_true q1
      have p2 : cP 2 (c.Aa.Az.getD i default) = false := decide_eq_false (by rw [q1]; decide)
      rw [if_pos (decide_eq_true q1), p1, p2, if_pos rfl, if_neg (by rw [q1]; decide), if_neg (by decide), FB (by omega)]
      rfl
    · have p1 : cP 1 (c.Aa.Az.getD i default) = false := decide_eq_false q1
      rw [if_neg (by rw [decide_eq_false q1]; decide), p1]
      by_cases q2 : (c.Aa.Az.getD i default).Dc = 2
      · have p2 : cP 2 (c.Aa.Az.getD i default) = true := decide_eq_true q2
        rw [if_pos (decide_eq_true q2), p2, if_pos rfl, FB (by omega)]
        rfl
      · have p2 : cP 2 (c.Aa.Az.getD i default) = false := decide_eq_false q2
        rw [if_neg (by rw [decide_eq_false q2]; decide), p2]
        rfl
  · show AM.b4 c _ _ (c.Aa.Az.length : Int) = _
    unfold AM.b4
    rw [if_neg (by rw [decide_eq_false (by omega)]; decide), List.take_length]
    rfl

theorem NO (c : AK) (b : List UInt8) (h1 : c.Aa.Au = true) : ((((((((((b ++ [114, 101, 112, 108, 105, 99, 97, 32, 111, 102, 32]) ++ (tx c.Aa.AB)) ++ [32, 114, 111, 111, 116, 115, 32]) ++ (tx (c.Aa.AT.length : Int))) ++ [32, 115, 104, 111, 119, 110, 32]) ++ (tx (LR c : Int))) ++ [32, 100, 111, 110, 101, 32]) ++ (tx (LZ c : Int))) ++ [32, 114, 111, 111, 116, 32]) ++ (JX c.Aa.Aj)) ++ [32, 102, 97, 105, 108, 101, 100, 10] = b ++ sy (Ki c) := by
  have e : Js c.Aa.Au c.Aa.Bh = [102, 97, 105, 108, 101, 100] := by unfold Js; rw [if_pos h1]
  unfold sy Ki; rw [e]; simp only [Lib.join_cons, Lib.joinTail, List.map_cons, List.map_nil, List.flatten_cons, List.flatten_nil, List.append_assoc, List.cons_append, List.nil_append, List.append_nil]
theorem NN (c : AK) (b : List UInt8) (h1 : ¬ c.Aa.Au = true) (h2 : c.Aa.Bh = true) : ((((((((((b ++ [114, 101, 112, 108, 105, 99, 97, 32, 111, 102, 32]) ++ (tx c.Aa.AB)) ++ [32, 114, 111, 111, 116, 115, 32]) ++ (tx (c.Aa.AT.length : Int))) ++ [32, 115, 104, 111, 119, 110, 32]) ++ (tx (LR c : Int))) ++ [32, 100, 111, 110, 101, 32]) ++ (tx (LZ c : Int))) ++ [32, 114, 111, 111, 116, 32]) ++ (JX c.Aa.Aj)) ++ [32, 99, 117, 116, 10] = b ++ sy (Ki c) := by
  have e : Js c.Aa.Au c.Aa.Bh = [99, 117, 116] := by unfold Js; rw [if_neg h1, if_pos h2]
  unfold sy Ki; rw [e]; simp only [Lib.join_cons, Lib.joinTail, List.map_cons, List.map_nil, List.flatten_cons, List.flatten_nil, List.append_assoc, List.cons_append, List.nil_append, List.append_nil]
theorem NM (c : AK) (b : List UInt8) (h1 : ¬ c.Aa.Au = true) (h2 : ¬ c.Aa.Bh = true) : ((((((((((b ++ [114, 101, 112, 108, 105, 99, 97, 32, 111, 102, 32]) ++ (tx c.Aa.AB)) ++ [32, 114, 111, 111, 116, 115, 32]) ++ (tx (c.Aa.AT.length : Int))) ++ [32, 115, 104, 111, 119, 110, 32]) ++ (tx (LR c : Int))) ++ [32, 100, 111, 110, 101, 32]) ++ (tx (LZ c : Int))) ++ [32, 114, 111, 111, 116, 32]) ++ (JX c.Aa.Aj)) ++ [32, 111, 112, 101, 110, 10] = b ++ sy (Ki c) := by
  have e : Js c.Aa.Au c.Aa.Bh = [111, 112, 101, 110] := by unfold Js; rw [if_neg h1, if_neg h2]
  unfold sy Ki; rw [e]; simp only [Lib.join_cons, Lib.joinTail, List.map_cons, List.map_nil, List.flatten_cons, List.flatten_nil, List.append_assoc, List.cons_append, List.nil_append, List.append_nil]
theorem LX {c : AK} (h : IH c) (b : List UInt8) (hb : b.length ≤ 20000000000) : AM.j1 c b = some ((b ++ sy (Ki c)) ++ (KZ c).flatMap fun e => sy [Hl e]) := by
  have h3 := h.rr
  have h4 := h.rs
  have h5 := I9 c
  have h6 := Jj c
  have f1 := Dd (x := c.Aa.AB) (by have := G1 h.rc; omega)
  have f2 := Dd (x := (c.Aa.AT.length : Int)) (by omega)
  have f3 := Dd (x := (LR c : Int)) (by omega)
  have f4 := Dd (x := (LZ c : Int)) (by omega)
  have f5 := H8 c.Aa.Aj
  have n1 := Hk (gR h) (by show 12 ≤ 12; omega)
  have hz : (b ++ sy (Ki c)).length ≤ 30000000000000 := by rw [List.length_append]; omega
  unfold AM.j1
  refine CC (LG h4) ?_
  refine BV (by simp only [List.length_append, List.length_cons, List.length_nil]; unfold Bw; omega) (AL (Lu (by have := G1 h.rc; omega)) (BV (by simp only [List.length_append, List.length_cons, List.length_nil]; unfold Bw; omega) ?_))
  refine BV (by simp only [List.length_append, List.length_cons, List.length_nil]; unfold Bw; omega) (AL (Np _ (by omega)) (BV (by simp only [List.length_append, List.length_cons, List.length_nil]; unfold Bw; omega) ?_))
  refine BV (by simp only [List.length_append, List.length_cons, List.length_nil]; unfold Bw; omega) (AL (Np _ (by omega)) (BV (by simp only [List.length_append, List.length_cons, List.length_nil]; unfold Bw; omega) ?_))
  refine BV (by simp only [List.length_append, List.length_cons, List.length_nil]; unfold Bw; omega) (AL (Np _ (by omega)) (BV (by simp only [List.length_append, List.length_cons, List.length_nil]; unfold Bw; omega) ?_))
  refine BV (by simp only [List.length_append, List.length_cons, List.length_nil]; unfold Bw; omega) (AL (d30 _ h.rm) ?_)
  refine BV (by simp only [List.length_append, List.length_cons, List.length_nil]; unfold Bw; omega) ?_
  by_cases h1 : c.Aa.Au = true
  · refine BV h1 (BV (by simp only [List.length_append, List.length_cons, List.length_nil]; unfold Bw; omega) ?_)
    rw [NO c b h1]
    exact KO h _ hz
  · by_cases h2 : c.Aa.Bh = true
    · refine HF h1 (BV h2 (BV (by simp only [List.length_append, List.length_cons, List.length_nil]; unfold Bw; omega) ?_))
      rw [NN c b h1 h2]
      exact KO h _ hz
    · refine HF h1 (HF h2 (BV (by simp only [List.length_append, List.length_cons, List.length_nil]; unfold Bw; omega) ?_))
      rw [NM c b h1 h2]
      exact KO h _ hz
theorem NX (c : AK) (b : List UInt8) (h1 : c.Ad.Au = true) : ((((((((b ++ [104, 111, 109, 101, 32, 108, 101, 116, 116, 101, 114, 115, 32]) ++ (tx (c.Ad.AP.length : Int))) ++ [32, 113, 117, 101, 117, 101, 100, 32]) ++ (tx (c.Ad.AW.length : Int))) ++ [32, 114, 111, 111, 116, 32]) ++ (JX c.Ad.Aj)) ++ [32, 98, 111, 110, 100, 32]) ++ (tx c.Ad.A8)) ++ [32, 102, 97, 105, 108, 101, 100, 10] = b ++ sy (LB c) := by
  have e : Js c.Ad.Au false = [102, 97, 105, 108, 101, 100] := by unfold Js; rw [if_pos h1]
  unfold sy LB; rw [e]; simp only [Lib.join_cons, Lib.joinTail, List.map_cons, List.map_nil, List.flatten_cons, List.flatten_nil, List.append_assoc, List.cons_append, List.nil_append, List.append_nil]
theorem NW (c : AK) (b : List UInt8) (h1 : ¬ c.Ad.Au = true) : ((((((((b ++ [104, 111, 109, 101, 32, 108, 101, 116, 116, 101, 114, 115, 32]) ++ (tx (c.Ad.AP.length : Int))) ++ [32, 113, 117, 101, 117, 101, 100, 32]) ++ (tx (c.Ad.AW.length : Int))) ++ [32, 114, 111, 111, 116, 32]) ++ (JX c.Ad.Aj)) ++ [32, 98, 111, 110, 100, 32]) ++ (tx c.Ad.A8)) ++ [32, 111, 112, 101, 110, 10] = b ++ sy (LB c) := by
  have e : Js c.Ad.Au false = [111, 112, 101, 110] := by unfold Js; rw [if_neg h1, if_neg (by decide)]
  unfold sy LB; rw [e]; simp only [Lib.join_cons, Lib.joinTail, List.map_cons, List.map_nil, List.flatten_cons, List.flatten_nil, List.append_assoc, List.cons_append, List.nil_append, List.append_nil]
theorem chS (c : AK) : ((((((([99, 104, 97, 105, 110, 32] ++ (tx c.BS)) ++ [32, 104, 101, 105, 103, 104, 116, 32]) ++ (tx c.Ae.AR)) ++ [32, 116, 105, 109, 101, 32]) ++ (tx c.Ae.A6)) ++ [32, 103, 97, 115, 32]) ++ (tx c.Ae.Bn)) ++ [10] = sy (L0 c) := by
  unfold sy L0; simp only [Lib.join_cons, Lib.joinTail, List.map_cons, List.map_nil, List.flatten_cons, List.flatten_nil, List.append_assoc, List.cons_append, List.nil_append, List.append_nil]
theorem LH {c : AK} (h : IH c) : AM c = some (Na c) := by
  have a1 := h.lv
  have a2 := h.qu
  have a3 := h.ac.1
  have a4 := h.tk.1
  have a5 := h.hd.1
  have f1 := Dd (x := c.BS) (by have := G1 h.iD; omega)
  have f2 := Dd (D0 h.hg).2
  have f3 := Dd (D0 h.tm).2
  have f4 := Dd (D0 h.gs).2
  have f5 := Dd (x := (c.Ad.AP.length : Int)) (by omega)
  have f6 := Dd (x := (c.Ad.AW.length : Int)) (by omega)
  have f7 := H8 c.Ad.Aj
  have f8 := Dd (D0 h.bd).2
  have n0 := Hk (gC h) (by show 8 ≤ 12; omega)
  have n9 := Hk (gM h) (by show 10 ≤ 12; omega)
  have n1 := LD (l := c.Ae.Ao) (g := fun a => sy (Lc a)) (by omega) (fun x hx => Hk (gA (h.ac.2 x hx)) (MK _))
  have n2 := LD (l := c.Al.At) (g := fun t => sy (Km t)) (by omega) (fun x hx => Hk (gT (h.tk.2 x hx)) (MF _))
  have n3 := LD (l := c.Al.Am) (g := fun t => sy (Le t)) (by omega) (fun x hx => Hk (gH (h.hd.2 x hx)) (M6 _))
  have nP := Jw h (sy (L0 c))
  have hz : (MG c (sy (L0 c)) ++ sy (LB c)).length ≤ 20000000000 := by rw [List.length_append]; omega
  unfold AM
  refine AL (Lu (by have := G1 h.iD; omega)) ?_
  refine BV (by simp only [List.length_append, List.length_cons, List.length_nil]; unfold Bw; omega) (BV (by simp only [List.length_append, List.length_cons, List.length_nil]; unfold Bw; omega) (AL (Kj (D0 h.hg)) ?_))
  refine BV (by simp only [List.length_append, List.length_cons, List.length_nil]; unfold Bw; omega) (BV (by simp only [List.length_append, List.length_cons, List.length_nil]; unfold Bw; omega) (AL (Kj (D0 h.tm)) ?_))
  refine BV (by simp only [List.length_append, List.length_cons, List.length_nil]; unfold Bw; omega) (BV (by simp only [List.length_append, List.length_cons, List.length_nil]; unfold Bw; omega) (AL (Kj (D0 h.gs)) ?_))
  refine BV (by simp only [List.length_append, List.length_cons, List.length_nil]; unfold Bw; omega) (BV (by simp only [List.length_append, List.length_cons, List.length_nil]; unfold Bw; omega) ?_)
  rw [chS]
  refine CC (GU c.Ae.Ao (AM.b1 c) (fun a => sy (Lc a)) (by omega) (fun x hx => Hk (gA (h.ac.2 x hx)) (MK _)) (Oj h) (fun b => (MC b).1) _ (by omega)) ?_
  refine CC (GU c.Al.At (AM.b2 c) (fun t => sy (Km t)) (by omega) (fun x hx => Hk (gT (h.tk.2 x hx)) (MF _)) (NK h) (fun b => (MC b).2.1) _ (by rw [List.length_append]; omega)) ?_
  refine CC (GU c.Al.Am (AM.b3 c) (fun t => sy (Le t)) (by omega) (fun x hx => Hk (gH (h.hd.2 x hx)) (M6 _)) (NY h) (fun b => (MC b).2.2) _ (by rw [List.length_append, List.length_append]; omega)) ?_
  refine BV (by simp only [List.length_append, List.length_cons, List.length_nil]; unfold Bw; omega) (AL (Np _ (by omega)) (BV (by simp only [List.length_append, List.length_cons, List.length_nil]; unfold Bw; omega) ?_))
  refine BV (by simp only [List.length_append, List.length_cons, List.length_nil]; unfold Bw; omega) (AL (Np _ (by omega)) (BV (by simp only [List.length_append, List.length_cons, List.length_nil]; unfold Bw; omega) ?_))
  refine BV (by simp only [List.length_append, List.length_cons, List.length_nil]; unfold Bw; omega) (AL (d30 _ h.hc) (BV (by simp only [List.length_append, List.length_cons, List.length_nil]; unfold Bw; omega) ?_))
  refine BV (by simp only [List.length_append, List.length_cons, List.length_nil]; unfold Bw; omega) (AL (Kj (D0 h.bd)) ?_)
  refine BV (by simp only [List.length_append, List.length_cons, List.length_nil]; unfold Bw; omega) ?_
  by_cases h1 : c.Ad.Au = true
  · refine BV h1 (BV (by simp only [List.length_append, List.length_cons, List.length_nil]; unfold Bw; omega) ?_)
    rw [NX c _ h1]
    exact LX h _ hz
  · refine HF h1 (BV (by simp only [List.length_append, List.length_cons, List.length_nil]; unfold Bw; omega) ?_)
    rw [NW c _ h1]
    exact LX h _ hz
theorem Gx (c : AK) (e : Ap) (g1 : Db .u32 c.BS) (g2 : Ow c.Ae) (g3 : Ov c.Al) (g4 : c.Ad.Aj.length = 32) (g5 : Db .u64 c.Ad.A8) (g6 : Db .u32 c.Aa.AB) (g7 : c.Aa.Aj.length = 32) (g8 : Db .u64 e.BB) :
    Ba c e = some true := by
  obtain ⟨b, e1, k⟩ := NZ c g1 g2 g3 g4 g5 g6 g7
  have hel := g2.2.2.2.2.1
  have skip : Ba.j1 c e true = some true := by unfold Ba.j1; rw [if_pos rfl]
  unfold Ba
  refine AL LM ?_
  rw [if_neg (by decide)]
  refine AL e1 ?_
  cases b with
  | false => exact skip
  | true =>
    rw [if_neg (by decide)]
    by_cases q : (2000 : Int) < (e.Bb.length : Int)
    · rw [decide_eq_true q]; exact skip
    · rw [decide_eq_false q]
      unfold Ba.j1
      rw [if_neg (by decide)]
      have ha := Gr (R := Bool) (body := fun s : Int => Ba.b1 c s) c.Ae.AD.length (fun i => decide ((2000 : Int) < ((c.Ae.AD.getD i default).Bb.length : Int))) true (fun i hi => by
        show Ba.b1 c (i : Int) = _
        unfold Ba.b1
        rw [if_pos (decide_eq_true (by omega)), if_pos (by omega), JJ hi hel, show ((i : Nat) : Int).toNat = i by omega]) (by
        show Ba.b1 c (c.Ae.AD.length : Int) = _
        unfold Ba.b1
        rw [if_neg (by rw [decide_eq_false (by omega)]; decide)]) c.Ae.AD.length 0 (((c.Ae.AD.length : Int) - 0 : Int).toNat + 2) (by omega) (by omega)
      rcases ha with ⟨j, _, _, ha⟩ | ⟨hn, ha⟩
      · exact AL ha rfl
      · have ok := k rfl (Hp fun j hj => by
          have := of_decide_eq_false (hn j (Nat.zero_le _) hj)
          omega)
        refine CC ha (AL (IW ok) (AL (LH ok) (BV (decide_eq_true rfl) (AL (IU e (by omega) g8) (AL (Ou e (by omega) g8) ?_)))))
        show some (decide (Hl e = Hl e)) = some true
        rw [decide_eq_true rfl]
end
end Go.Proofs.YtemnhknjphjpnaaDoor
