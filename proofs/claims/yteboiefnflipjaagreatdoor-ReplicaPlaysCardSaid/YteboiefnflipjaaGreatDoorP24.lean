/- Plain laws: P24a, P22a, P11a, P23, P24, as one text. -/
import Derived.Test.YteboiefnflipjaaGreatDoorP32
namespace Go.Proofs.YteboiefnflipjaaGreatDoor
open Go Go.RowKit Go.Proofs
section
set_option linter.unusedVariables false

theorem NG {x : Int} (h : E5 .u32 x) : 0 ≤ x ∧ x < 4294967296 := by
  have h1 := h.1
  have h2 := h.2
  simp [IntKind.min, IntKind.max, IntKind.bits, IntKind.signed] at h1 h2
  omega
def MH (u : AI) : Prop := E5 .u32 u.B0 ∧ u.Eu.length = 32 ∧ u.BN.length = 32 ∧ KE u.C1
noncomputable def IX (root : List UInt8) (u : AI) : Bool := KL root (Kz u.B0 u.Eu u.BN) u.C1
theorem OQ (L : Option AD) (root : List UInt8) {u : AI} (h : MH u) : ∃ L', E6 L root u = some (IX root u, L') ∧ (L = none → L' = none) := by
  obtain ⟨L1, a1, b1⟩ := MC L (NG h.1) h.2.1 h.2.2.1
  obtain ⟨L2, a2, b2⟩ := K0 L1 root (Kz u.B0 u.Eu u.BN) h.2.2.2
  refine ⟨L2, ?_, fun e => b2 (b1 e)⟩
  unfold E6
  exact Ax a1 (Ax a2 rfl)
end

section
set_option linter.unusedVariables false

def Sk (home : Int) (a : List UInt8) (w : Int) : List (List UInt8) := [H0 home, a, H0 w]
theorem NH {home w : Int} {a : List UInt8} (ha : a.length = 32) : Small (Sk home a w) := ⟨fun p hp => by
  simp only [Sk, List.mem_cons, List.not_mem_nil, or_false] at hp
  rcases hp with rfl | rfl | rfl
  · simp [H0, HC]
  · omega
  · simp [H0, HC], by simp [Sk]⟩
noncomputable def Ks (home : Int) (a : List UInt8) (w : Int) : List UInt8 := H (KJ 9 (Sk home a w))
theorem NI (L : Option AD) {home : Int} (hh : 0 ≤ home ∧ home < 4294967296) {a : List UInt8} (ha : a.length = 32) (w : Int) : ∃ L', E1 L home a w = some (Ks home a w, L') ∧ (L = none → L' = none) := by
  obtain ⟨L', h1, h2⟩ := PL L 9 (NH (home := home) (w := w) ha)
  refine ⟨L', ?_, h2⟩
  unfold E1
  exact Ax (KZ hh) (Ax (F1 ha) (Ax (KY w) (Ax h1 rfl)))
theorem Me (home : Int) {a b : List UInt8} (ha : a.length = 32) (hb : b.length = 32) : FN none home a b = some (Kz home a b, none) := by
  unfold FN
  exact Ax (GQ home) (Ax (Fc ha) (Ax (Fc hb) (Ax (Kf 7 (NO (home := home) ha hb)) rfl)))
theorem MZ (home : Int) {a : List UInt8} (ha : a.length = 32) (w : Int) : Gn none home a w = some (Ks home a w, none) := by
  unfold Gn
  exact Ax (GQ home) (Ax (Fc ha) (Ax (GQ w) (Ax (Kf 9 (NH (home := home) (w := w) ha)) rfl)))
end

section
set_option linter.unusedVariables false

theorem Lb (l : List (List UInt8)) (j : Nat) (x : List UInt8) (h : l[j]? = some x) : (l.take (j + 1)).flatten = (l.take j).flatten ++ x := by
  obtain ⟨hj, e⟩ := List.getElem?_eq_some_iff.1 h
  rw [List.take_succ_eq_append_getElem hj, List.flatten_append, e]
  simp only [List.flatten_cons, List.flatten_nil, List.append_nil]
theorem KU {l : List (List UInt8)} (h : ∀ p ∈ l, p.length = 32) (k : Nat) (hk : k ≤ l.length) : (l.take k).flatten.length = 32 * k := by
  rw [HE _ fun q hq => h q (List.mem_of_mem_take hq)]
  simp; omega
theorem PR {n : Nat} (h : n < 9223372036854775808) : IntKind.wrap .i64 (n : Int) = (n : Int) := Er (by omega)
theorem Od (a : Int) (k : Nat) (hk : IntKind.wrap .i64 (7 - (a.tmod 8)) = (k : Int)) (hk7 : k ≤ 7) (x : Nat) (hx : x < 256) : ∃ i, Bu (fun s : Int × Int => CA.b1 a s.1 s.2) 100000 ((x : Int), 0) = some (.next (((x / 2 ^ k : Nat) : Int), i)) := by
  obtain ⟨c, h1, h2⟩ := B7 (body := fun s : Int × Int => CA.b1 a s.1 s.2) (fun s => ∃ j : Nat, j ≤ k ∧ s = (((x / 2 ^ j : Nat) : Int), (j : Int))) (fun c => match c with | .next s => s.1 = ((x / 2 ^ k : Nat) : Int) | .ret _ => False) (fun s => (k - s.2).toNat)
    (fun s ⟨j, hj, hs⟩ => by
      subst hs
      by_cases hlt : j < k
      · refine .inl ⟨(((x / 2 ^ (j + 1) : Nat) : Int), ((j + 1 : Nat) : Int)), ?_, ⟨j + 1, by omega, rfl⟩, by simp; omega⟩
        show CA.b1 a _ _ = _
        unfold CA.b1
        have hd : x / 2 ^ j ≤ x := Nat.div_le_self _ _
        have e1 : ((x / 2 ^ j : Nat) : Int).tdiv 2 = ((x / 2 ^ (j + 1) : Nat) : Int) := by
          rw [Int.tdiv_eq_ediv_of_nonneg (Int.natCast_nonneg _), Nat.pow_succ, ← Nat.div_div_eq_div_mul]; simp
        have hd2 : x / 2 ^ (j + 1) ≤ x := Nat.div_le_self _ _
        rw [hk, if_pos (by simp; omega), e1, PR (by omega), Er (by omega)]
        rfl
      · have : j = k := by omega
        subst this
        refine .inr (.inl ⟨(((x / 2 ^ j : Nat) : Int), (j : Int)), ?_, rfl⟩)
        show CA.b1 a _ _ = _
        unfold CA.b1
        rw [hk, if_neg (by simp)]) 100000 ((x : Int), 0) ⟨0, by omega, by simp⟩ (by simp; omega)
  cases c with
  | ret r => exact h2.elim
  | next s =>
    obtain ⟨y, i⟩ := s
    have h2 : y = _ := h2
    subst h2
    exact ⟨i, h1⟩
theorem P8 (d : List UInt8) (i : Int) : CA d i = Cm d i ∧ ∃ b, Cm d i = some b := by
  unfold CA Cm
  by_cases h0 : i < 0
  · rw [if_pos (by simpa using h0), if_pos (by simpa using h0)]
    exact ⟨rfl, _, rfl⟩
  · rw [if_neg (by simpa using h0), if_neg (by simpa using h0)]
    by_cases h1 : 256 ≤ i
    · unfold CA.j1 Cm.j1
      rw [if_pos (by simp; omega), if_pos (by simp; omega)]
      exact ⟨rfl, _, rfl⟩
    · obtain ⟨n, rfl⟩ : ∃ n : Nat, i = (n : Int) := ⟨i.toNat, by omega⟩
      have e1 : (n : Int).tdiv 8 = ((n / 8 : Nat) : Int) := by rw [Int.tdiv_eq_ediv_of_nonneg (by omega)]; simp
      have e2 : (n : Int).tmod 8 = ((n % 8 : Nat) : Int) := by rw [Int.tmod_eq_emod_of_nonneg (by omega)]; simp
      have hk : IntKind.wrap .i64 (7 - ((n : Int).tmod 8)) = ((7 - n % 8 : Nat) : Int) := by rw [e2, Er (by omega)]; omega
      have hq : IntKind.wrap .i64 ((n : Int).tdiv 8) = ((n / 8 : Nat) : Int) := by rw [e1, PR (by omega)]
      have hx2 : (d.getD ((n / 8 : Nat) : Int).toNat 0).toNat < 256 := UInt8.toNat_lt _
      have hk7 : 7 - n % 8 ≤ 7 := by omega
      have hA : Cm.j1 d n (decide ((256 : Int) ≤ n)) = some ((((d.getD ((n / 8 : Nat) : Int).toNat 0).toNat / 2 ^ (7 - n % 8) : Nat) : Int) % 2) := by
        unfold Cm.j1
        rw [if_neg (by simp; omega), hk, hq, if_pos (by omega), if_pos (by omega)]
        generalize (d.getD ((n / 8 : Nat) : Int).toNat 0).toNat = x at *
        generalize 7 - n % 8 = k at *
        have hs : shr .u8 (x : Int) (k : Int) = ((x / 2 ^ k : Nat) : Int) := by
          unfold shr
          have : min (k : Int).toNat IntKind.u8.bits = k := by simp [IntKind.bits]; omega
          rw [this, Int.fdiv_eq_ediv_of_nonneg _ (by exact Int.le_of_lt (Int.pow_pos (by decide)))]
          simp
        have hd : x / 2 ^ k ≤ x := Nat.div_le_self _ _
        rw [hs, PR (by omega), II]
      have hB : CA.j1 d n (decide ((255 : Int) < n)) = some ((((d.getD ((n / 8 : Nat) : Int).toNat 0).toNat / 2 ^ (7 - n % 8) : Nat) : Int) % 2) := by
        unfold CA.j1
        rw [if_neg (by simp; omega), hq, if_pos (by omega)]
        generalize (d.getD ((n / 8 : Nat) : Int).toNat 0).toNat = x at *
        generalize 7 - n % 8 = k at *
        obtain ⟨j, hl⟩ := Od n k hk hk7 x hx2
        rw [PR (by omega)]
        refine Bz hl ?_
        dsimp only
        rw [Int.tmod_eq_emod_of_nonneg (Int.natCast_nonneg _)]
      rw [hA, hB]
      exact ⟨rfl, _, rfl⟩
theorem O0 (d : List UInt8) (parts others : List (List UInt8)) (j : Nat) (hj : j < 64) : (MP d parts others)[j]? = some (IA d parts others j) := by simp [MP, hj]
theorem MY (L : Option A2) (d : List UInt8) {parts others : List (List UInt8)} (h : ¬(parts.length = 32 ∧ others.length = 32)) : BB L d parts others = some (List.replicate 32 0, false, L) := by
  unfold BB
  by_cases hp : parts.length = 32
  · rw [if_neg (by simp [hp])]
    unfold BB.j1
    rw [if_pos (by simp; omega)]
  · rw [if_pos (by simp; omega)]
    unfold BB.j1
    rw [if_pos rfl]
end

section
set_option linter.unusedVariables false
theorem QE {a b : List UInt8} (ha : a.length = 32) (hb : b.length = 32) : Dg none 4 a b = some (nd a b, none) := by
  unfold Dg
  exact Ax (Fc ha) (Ax (Fc hb) (Ax (Kf 4 (GD ha hb)) rfl))
theorem RN {s : List UInt8} (h : s.length = 32) : Fa none s = some (Hh s, none) := by
  unfold Fa
  exact Ax (Fc h) (Ax (Kf 2 (Kg h)) rfl)
theorem OP (d : List UInt8) {parts others : List (List UInt8)} (hp : parts.length = 32 ∧ ∀ p ∈ parts, p.length = 32) (ho : others.length = 32 ∧ ∀ p ∈ others, p.length = 32) :
    BB none d parts others = some (Hk (MP d parts others), true, none) := by
  have hol := Iz (d := d) hp ho
  obtain ⟨c, h1, h2⟩ := B7 (body := fun s : Int × (Option A2) × (List (UInt8)) => BB.b1 d parts others s.1 s.2.1 s.2.2)
    (fun s => ∃ i : Nat, i ≤ 32 ∧ s = ((i : Int), none, ((MP d parts others).take (2 * i)).flatten))
    (fun c => match c with | .next s => s.2 = (none, (MP d parts others).flatten) | .ret _ => False) (fun s => (32 - s.1).toNat)
    (fun s ⟨i, hi, hs⟩ => by
      subst hs
      by_cases hlt : i < 32
      · obtain ⟨hb, hb2⟩ := Nl d i (by omega)
        have hpi : (parts.getD i default).length = 32 := Et hp.2 (by omega)
        have hoi : (others.getD i default).length = 32 := Et ho.2 (by omega)
        have hoj : (others.getD (i : Int).toNat default).length = 32 := hoi
        have k0 : IA d parts others (2 * i) = if 0 = HR d i then Hh (parts.getD i default) else others.getD i default := by
          unfold IA
          rw [show 2 * i % 2 = 0 by omega, show 2 * i / 2 = i by omega]
          rfl
        have k1 : IA d parts others (2 * i + 1) = if 1 = HR d i then Hh (parts.getD i default) else others.getD i default := by
          unfold IA
          rw [show (2 * i + 1) % 2 = 1 by omega, show (2 * i + 1) / 2 = i by omega]
          rfl
        have f1 := Lb _ _ _ (O0 d parts others (2 * i) (by omega))
        have f2 := Lb _ _ _ (O0 d parts others (2 * i + 1) (by omega))
        have hlen := KU hol.2 (2 * i) (by omega)
        have hpp := JK hpi
        have a1 := RN hpi
        have hstep : BB.b1 d parts others i none ((MP d parts others).take (2 * i)).flatten = some (.cont (((i + 1 : Nat) : Int), none, ((MP d parts others).take (2 * (i + 1))).flatten)) := by
          rw [show 2 * (i + 1) = 2 * i + 1 + 1 by omega, f2, f1]
          unfold BB.b1
          rw [if_pos (by simp; omega), if_pos (by omega)]
          refine Ax a1 (Ax (Fc hpp) ?_)
          refine Ax ((P8 d i).1.trans hb) ?_
          rcases hb2 with e | e
          · rw [e] at k0 k1
            rw [e, if_pos (by simp), if_pos (by simp only [CW]; omega), if_pos (by omega)]
            refine Ax (Fc hoi) ?_
            rw [if_pos (by simp only [List.length_append, CW]; omega), k0, k1]
            unfold BB.j2
            rw [Er (by omega)]
            rfl
          · rw [e] at k0 k1
            rw [e, if_neg (by simp), if_pos (by omega)]
            refine Ax (Fc hoi) ?_
            rw [if_pos (by simp only [CW]; omega), if_pos (by simp only [List.length_append, CW]; omega), k0, k1]
            unfold BB.j2
            rw [Er (by omega)]
            rfl
        exact .inl ⟨_, hstep, ⟨i + 1, by omega, rfl⟩, by simp; omega⟩
      · have : i = 32 := by omega
        subst this
        refine .inr (.inl ⟨((32 : Nat), none, ((MP d parts others).take (2 * 32)).flatten), ?_, ?_⟩)
        · show BB.b1 d parts others 32 _ _ = _
          unfold BB.b1
          rw [if_neg (by simp)]
          rfl
        · rw [List.take_of_length_le (by rw [hol.1]; decide)]) ((32 - 0 : Int).toNat + 2) (0, none, []) ⟨0, by omega, rfl⟩ (by simp)
  unfold BB
  rw [if_neg (by simp [hp.1])]
  unfold BB.j1
  rw [if_neg (by simp [ho.1])]
  cases c with
  | ret r => exact h2.elim
  | next s =>
    obtain ⟨i, s2⟩ := s
    obtain rfl : s2 = (none, (MP d parts others).flatten) := h2
    refine Bz h1 ?_
    exact Ax (Kf 3 (Je hol.1 hol.2)) rfl
theorem OE {n : Nat} (h : n < 1000000) : IntKind.wrap .u64 (n : Int) = (n : Int) := by simp only [IntKind.wrap, IntKind.bits, IntKind.signed]; simp; omega
theorem P7 {w : List UInt8} (hw : w.length = 32) (n : Nat) (hn : n < 1000000) {path : List (List UInt8)} (hp : ∀ p ∈ path, p.length = 32) (hl : path.length ≤ 1000) :
    BL none w (n : Int) path = some (ER path n w, none) := by
  obtain ⟨c, h1, h2⟩ := B7 (body := fun s : Int × Int × (Option A2) × (List UInt8) => BL.b1 (n : Int) path s.1 s.2.1 s.2.2.1 s.2.2.2)
    (fun s => ∃ (i m : Nat) (cur : List UInt8), i ≤ path.length ∧ m < 1000000 ∧ s = ((m : Int), (i : Int), none, cur) ∧ ER (path.drop i) m cur = ER path n w ∧ cur.length = 32)
    (fun c => match c with | .next s => s.2.2 = (none, ER path n w) | .ret _ => False) (fun s => (path.length - s.2.1).toNat)
    (fun s ⟨i, m, cur, hi, hm, hs, hc, h32⟩ => by
      subst hs
      have hd : (m : Int).tdiv 2 = ((m / 2 : Nat) : Int) := by rw [Int.tdiv_eq_ediv_of_nonneg (by omega)]; simp
      have hr : (m : Int).tmod 2 = ((m % 2 : Nat) : Int) := by rw [Int.tmod_eq_emod_of_nonneg (by omega)]; simp
      by_cases hlt : i < path.length
      · have hq := Et hp hlt
        rw [NM hlt, ER] at hc
        by_cases hb : m % 2 = 1
        · rw [if_pos hb] at hc
          refine .inl ⟨(((m / 2 : Nat) : Int), ((i + 1 : Nat) : Int), none, nd (path.getD i default) cur), ?_, ⟨i + 1, m / 2, _, by omega, by omega, rfl, hc, Kk hq h32⟩, by simp; omega⟩
          show BL.b1 (n : Int) path (m : Int) (i : Int) none cur = _
          unfold BL.b1
          rw [hr, if_pos (by simp; omega), if_pos (by simp; omega), if_pos (by omega)]
          refine Ax (QE hq h32) ?_
          unfold BL.j1
          rw [if_neg (by simp)]
          unfold BL.j2
          rw [hd, OE (by omega), Er (by omega)]
          rfl
        · rw [if_neg hb] at hc
          refine .inl ⟨(((m / 2 : Nat) : Int), ((i + 1 : Nat) : Int), none, nd cur (path.getD i default)), ?_, ⟨i + 1, m / 2, _, by omega, by omega, rfl, hc, Kk h32 hq⟩, by simp; omega⟩
          show BL.b1 (n : Int) path (m : Int) (i : Int) none cur = _
          unfold BL.b1
          rw [hr, if_pos (by simp; omega), if_neg (by simp; omega), if_pos (by omega)]
          refine Ax (QE h32 hq) ?_
          unfold BL.j1
          rw [if_neg (by simp)]
          unfold BL.j2
          rw [hd, OE (by omega), Er (by omega)]
          rfl
      · have : i = path.length := by omega
        subst this
        rw [List.drop_length, ER] at hc
        refine .inr (.inl ⟨((m : Int), ((path.length : Nat) : Int), none, cur), ?_, by rw [hc]⟩)
        show BL.b1 (n : Int) path (m : Int) (path.length : Int) none cur = _
        unfold BL.b1
        rw [if_neg (by simp)]) (((path.length : Int) - 0 : Int).toNat + 2) ((n : Int), 0, none, w) ⟨0, n, w, by omega, hn, rfl, rfl, hw⟩ (by simp)
  unfold BL
  rw [OE hn]
  cases c with
  | ret r => exact h2.elim
  | next s =>
    obtain ⟨x, y, s2⟩ := s
    obtain rfl : s2 = (none, ER path n w) := h2
    exact Bz h1 rfl
theorem Ma (root d : List UInt8) {s : AE} (hs : KE s) : C4 none root d s = some (KL root d s, none) := by
  unfold C4
  by_cases h1 : 0 ≤ s.Cc
  · rw [if_neg (by simp; omega)]
    by_cases h2 : s.Cc < 16
    · rw [if_neg (by simp; omega)]
      unfold C4.j1
      by_cases h3 : s.Dk.length = 4
      · rw [if_neg (by simp [h3])]
        by_cases h4 : s.Dl.length = 32 ∧ s.CZ.length = 32
        · obtain ⟨n, hn⟩ : ∃ n : Nat, s.Cc = (n : Int) := ⟨s.Cc.toNat, by omega⟩
          have hol := Iz (d := d) ⟨h4.1, hs.1⟩ ⟨h4.2, hs.2.1⟩
          refine Ax (OP d ⟨h4.1, hs.1⟩ ⟨h4.2, hs.2.1⟩) ?_
          rw [if_neg (by simp), hn]
          refine Ax (P7 (JO hol.1 hol.2) n (by omega) hs.2.2 (by omega)) ?_
          unfold KL
          simp [hn, h3, h4.1, h4.2, show (n : Int) < 16 by omega]
        · refine Ax (MY none d h4) ?_
          rw [if_pos (by simp), LX h4]
      · rw [if_pos (by simp; omega), HJ (fun h => h3 h.2.2)]
    · rw [if_pos (by simp; omega), HJ (fun h => h2 h.2.1)]
      rfl
  · rw [if_pos (by simp; omega), HJ (fun h => h1 h.1)]
    rfl
end

section
set_option linter.unusedVariables false

def MI (s : A1) : Prop := E5 .u32 s.B0 ∧ s.EP.length = 32 ∧ KE s.C1
noncomputable def HD (root : List UInt8) (s : A1) : Bool := KL root (Ks s.B0 s.EP s.Bn) s.C1
theorem Pj (L : Option AD) (root : List UInt8) {s : A1} (h : MI s) : ∃ L', E7 L root s = some (HD root s, L') ∧ (L = none → L' = none) := by
  obtain ⟨L1, a1, b1⟩ := NI L (NG h.1) h.2.1 s.Bn
  obtain ⟨L2, a2, b2⟩ := K0 L1 root (Ks s.B0 s.EP s.Bn) h.2.2
  refine ⟨L2, ?_, fun e => b2 (b1 e)⟩
  unfold E7
  exact Ax a1 (Ax a2 rfl)
theorem P3 (root : List UInt8) {u : AI} (h : MH u) : FL none root u = some (IX root u, none) := by
  unfold FL
  exact Ax (Me u.B0 h.2.1 h.2.2.1) (Ax (Ma root _ h.2.2.2) rfl)
theorem P5 (root : List UInt8) {s : A1} (h : MI s) : FM none root s = some (HD root s, none) := by
  unfold FM
  exact Ax (MZ s.B0 h.2.1 s.Bn) (Ax (Ma root _ h.2.2) rfl)
end
end Go.Proofs.YteboiefnflipjaaGreatDoor
