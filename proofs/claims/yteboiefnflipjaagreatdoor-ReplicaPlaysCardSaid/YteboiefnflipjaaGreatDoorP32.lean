/- Plain laws: P8a, P20, P20b, P23a, P21, P32, as one text. -/
import Derived.Test.YteboiefnflipjaaGreatDoorP5a
import Derived.Test.YteboiefnflipjaaGreatDoorP7
namespace Go.Proofs.YteboiefnflipjaaGreatDoor
open Go Go.RowKit Go.Proofs
section
set_option linter.unusedVariables false

theorem Small.R {ps : List (List UInt8)} (h : Small ps) (d : Int) : Gh (KJ d ps) = some (Go.Proofs.YteboiefnflipjaaGreatDoor.H (KJ d ps)) := by
  obtain ⟨x, h1, h2, _⟩ := Q2 (KJ d ps) (by have := h.enc; simp [KJ, CW]; omega)
  rw [(h.H d).1] at h1
  rw [h2, h1]
theorem Fc {x : List UInt8} (h : x.length = 32) : Dr x = some x := F1 h
theorem wrap64 (i : Int) : ∃ n : Nat, IntKind.wrap .u64 i = (n : Int) ∧ n < 18446744073709551616 ∧ ((n : Int) = i % 18446744073709551616) := by
  refine ⟨(i % 18446744073709551616).toNat, ?_, by omega, by omega⟩
  simp only [IntKind.wrap, IntKind.bits, IntKind.signed]; simp; omega
theorem wrap32 (i : Int) : ∃ n : Nat, IntKind.wrap .u32 i = (n : Int) ∧ n < 4294967296 ∧ ((n : Int) = i % 4294967296) := by
  refine ⟨(i % 4294967296).toNat, ?_, by omega, by omega⟩
  simp only [IntKind.wrap, IntKind.bits, IntKind.signed]; simp; omega
theorem GQ (i : Int) : CK (IntKind.wrap .u64 i) 4 = some (H0 i) := by
  obtain ⟨n, h1, h2, h3⟩ := wrap64 i
  obtain ⟨m, k1, k2, k3⟩ := wrap32 i
  rw [h1, Md n h2]
  unfold H0
  rw [k1]
  have hmn : m = n % 4294967296 := by omega
  unfold HC
  have e0 : B5 (IntKind.wrap .u8 (shr .u64 (n : Int) 24)) = B5 (IntKind.wrap .u8 (shr .u64 (m : Int) 24)) := UInt8.toNat_inj.1 (by rw [byteOf (q := 16777216) (by decide) (by decide), byteOf (q := 16777216) (by decide) (by decide)]; omega)
  have e1 : B5 (IntKind.wrap .u8 (shr .u64 (n : Int) 16)) = B5 (IntKind.wrap .u8 (shr .u64 (m : Int) 16)) := UInt8.toNat_inj.1 (by rw [byteOf (q := 65536) (by decide) (by decide), byteOf (q := 65536) (by decide) (by decide)]; omega)
  have e2 : B5 (IntKind.wrap .u8 (shr .u64 (n : Int) 8)) = B5 (IntKind.wrap .u8 (shr .u64 (m : Int) 8)) := UInt8.toNat_inj.1 (by rw [byteOf (q := 256) (by decide) (by decide), byteOf (q := 256) (by decide) (by decide)]; omega)
  have e3 : B5 (IntKind.wrap .u8 (shr .u64 (n : Int) 0)) = B5 (IntKind.wrap .u8 (shr .u64 (m : Int) 0)) := UInt8.toNat_inj.1 (by rw [byteOf (q := 1) (by decide) (by decide), byteOf (q := 1) (by decide) (by decide)]; omega)
  rw [e0, e1, e2, e3]
theorem Kf (d : Int) {ps : List (List UInt8)} (h : Small ps) : DB none d ps = some (H (KJ d ps), none) := by
  have he := h.enc
  unfold DB
  exact Ax (Oc d ps (fun p hp => by have := h.1 p hp; omega) (by omega) (by have := h.2; omega)) (Ax (h.R d) (Ax rfl rfl))
end

section
set_option linter.unusedVariables false

noncomputable def nd (a b : List UInt8) : List UInt8 := H (KJ 4 [a, b])
theorem GD {a b : List UInt8} (ha : a.length = 32) (hb : b.length = 32) : Small [a, b] := ⟨fun p hp => by simp only [List.mem_cons, List.not_mem_nil, or_false] at hp; rcases hp with rfl | rfl <;> omega, by simp⟩
theorem Kk {a b : List UInt8} (ha : a.length = 32) (hb : b.length = 32) : (nd a b).length = 32 := ((GD ha hb).H 4).2
theorem MS (L : Option AD) {a b : List UInt8} (ha : a.length = 32) (hb : b.length = 32) : ∃ L', C8 L 4 a b = some (nd a b, L') ∧ (L = none → L' = none) := by
  obtain ⟨L', h1, h2⟩ := PL L 4 (GD ha hb)
  refine ⟨L', ?_, h2⟩
  unfold C8
  exact Ax (F1 ha) (Ax (F1 hb) (Ax h1 rfl))
/-- The level above. -/
noncomputable def Sf (l : List (List UInt8)) (j : Nat) : List UInt8 := nd (l.getD (2 * j) default) (l.getD (2 * j + 1) default)
noncomputable def F3 (l : List (List UInt8)) : List (List UInt8) := (List.range (l.length / 2)).map (Sf l)
theorem Et {l : List (List UInt8)} (h : ∀ p ∈ l, p.length = 32) {i : Nat} (hi : i < l.length) : (l.getD i default).length = 32 := by
  rw [show l.getD i default = l[i] from by simp [List.getD, hi]]
  exact h _ (List.getElem_mem hi)
theorem Ij {l : List (List UInt8)} (h : ∀ p ∈ l, p.length = 32) : (F3 l).length = l.length / 2 ∧ ∀ p ∈ F3 l, p.length = 32 := by
  refine ⟨by simp [F3], fun p hp => ?_⟩
  obtain ⟨j, hj, rfl⟩ := List.mem_map.1 hp
  have hj : j < l.length / 2 := List.mem_range.1 hj
  exact Kk (Et h (by omega)) (Et h (by omega))
theorem Jk (L : Option AD) {l : List (List UInt8)} (hl : l.length ≤ 1000) (h : ∀ p ∈ l, p.length = 32) : ∃ L', D8 L l = some (F3 l, L') ∧ (L = none → L' = none) := by
  obtain ⟨c, h1, h2⟩ := B7 (body := fun s : Int × (Option AD) × (List (List UInt8)) => D8.b1 l s.1 s.2.1 s.2.2)
    (fun s => ∃ i : Nat, i ≤ l.length / 2 ∧ s.1 = ((2 * i : Nat) : Int) ∧ (L = none → s.2.1 = none) ∧ s.2.2 = (List.range i).map (Sf l))
    (fun c => match c with | .next s => (L = none → s.2.1 = none) ∧ s.2.2 = F3 l | .ret _ => False) (fun s => (l.length + 1 - s.1).toNat)
    (fun s ⟨i, hi, q1, q2, q3⟩ => by
      obtain ⟨x, lg, w⟩ := s
      have q1 : x = ((2 * i : Nat) : Int) := q1
      have q3 : w = _ := q3
      subst q1 q3
      by_cases hlt : i < l.length / 2
      · obtain ⟨lg', a1, a2⟩ := MS lg (Et h (i := 2 * i) (by omega)) (Et h (i := 2 * i + 1) (by omega))
        refine .inl ⟨(((2 * (i + 1) : Nat) : Int), lg', (List.range (i + 1)).map (Sf l)), ?_, ⟨i + 1, by omega, rfl, fun e => a2 (q2 e), rfl⟩, by simp; omega⟩
        show D8.b1 l ((2 * i : Nat) : Int) lg _ = _
        unfold D8.b1
        have e1 : ((2 * i : Nat) : Int).toNat = 2 * i := by omega
        have e2 : (((2 * i : Nat) : Int) + 1).toNat = 2 * i + 1 := by omega
        rw [Er (x := ((2 * i : Nat) : Int) + 1) (by omega), Er (x := ((2 * i : Nat) : Int) + 2) (by omega), if_pos (by simp; omega), if_pos (by omega), if_pos (by omega), e1, e2]
        refine Ax a1 ?_
        rw [if_pos (by simp [CW]; omega), List.range_succ, List.map_append]
        have e3 : ((2 * i : Nat) : Int) + 2 = ((2 * (i + 1) : Nat) : Int) := by omega
        rw [e3]
        rfl
      · have hie : i = l.length / 2 := by omega
        refine .inr (.inl ⟨(((2 * i : Nat) : Int), lg, (List.range i).map (Sf l)), ?_, q2, by rw [hie]; rfl⟩)
        show D8.b1 l ((2 * i : Nat) : Int) lg _ = _
        unfold D8.b1
        rw [Er (x := ((2 * i : Nat) : Int) + 1) (by omega), if_neg (by simp; omega)]) 100000 (0, L, []) ⟨0, by omega, rfl, fun e => e, rfl⟩ (by simp; omega)
  unfold D8
  cases c with
  | ret r => exact h2.elim
  | next s =>
    obtain ⟨i, lg, w⟩ := s
    obtain ⟨h2, h3⟩ : (L = none → lg = none) ∧ w = F3 l := h2
    subst h3
    exact ⟨lg, Bz h1 rfl, h2⟩
theorem lc {R S : Type} {body : S → Option (Cn R S)} (k : Nat) {s s' : S} {r : Option (QW R S)} (h1 : body s = some (.cont s')) (h2 : Bu body k s' = r) : Bu body (k + 1) s = r := by
  unfold Bu
  rw [h1]
  exact h2
theorem SO {R S : Type} {body : S → Option (Cn R S)} (k : Nat) {s s' : S} (h1 : body s = some (.brk s')) : Bu body (k + 1) s = some (.next s') := by
  unfold Bu
  rw [h1]
noncomputable def Jm (l : List (List UInt8)) : List UInt8 := (F3 (F3 (F3 (F3 l)))).getD 0 default
/-- Sixteen leaves, and the levels above them. -/
theorem levels {l : List (List UInt8)} (hl : l.length = 16) (h : ∀ p ∈ l, p.length = 32) : (F3 l).length = 8 ∧ (∀ p ∈ F3 l, p.length = 32) ∧ (F3 (F3 l)).length = 4 ∧ (∀ p ∈ F3 (F3 l), p.length = 32) ∧ (F3 (F3 (F3 l))).length = 2 ∧ (∀ p ∈ F3 (F3 (F3 l)), p.length = 32) ∧ (F3 (F3 (F3 (F3 l)))).length = 1 ∧ ∀ p ∈ F3 (F3 (F3 (F3 l))), p.length = 32 := by
  have a := Ij h
  have b := Ij a.2
  have c := Ij b.2
  have d := Ij c.2
  refine ⟨by omega, a.2, by omega, b.2, by omega, c.2, by omega, d.2⟩
theorem Nv (L : Option AD) {s : Am} (hl : s.Bi.length = 16) (h : ∀ p ∈ s.Bi, p.length = 32) : ∃ L', B4 s L = some (Jm s.Bi, L') ∧ (L = none → L' = none) := by
  obtain ⟨n1, h1, n2, h2, n3, h3, n4, h4⟩ := levels hl h
  obtain ⟨L1, a1, b1⟩ := Jk L (by omega) h
  obtain ⟨L2, a2, b2⟩ := Jk L1 (by omega) h1
  obtain ⟨L3, a3, b3⟩ := Jk L2 (by omega) h2
  obtain ⟨L4, a4, b4⟩ := Jk L3 (by omega) h3
  refine ⟨L4, ?_, fun e => b4 (b3 (b2 (b1 e)))⟩
  have st : ∀ (x : List (List UInt8)) (lg lg' : Option AD), 1 < x.length → D8 lg x = some (F3 x, lg') → B4.b1 x lg = some (.cont (F3 x, lg')) := by
    intro x lg lg' hx hu
    unfold B4.b1
    rw [if_pos (by simp; omega)]
    exact Ax hu rfl
  have en : ∀ (x : List (List UInt8)) (lg : Option AD), x.length = 1 → B4.b1 x lg = some (.brk (x, lg)) := by
    intro x lg hx
    unfold B4.b1
    rw [if_neg (by simp; omega)]
  have s1 := st s.Bi L L1 (by omega) a1
  have s2 := st _ L1 L2 (by omega) a2
  have s3 := st _ L2 L3 (by omega) a3
  have s4 := st _ L3 L4 (by omega) a4
  unfold B4
  rw [if_neg (by simp [hl])]
  have hf : ((s.Bi.length : Int) - 1 : Int).toNat + 2 = 17 := by omega
  rw [hf]
  refine Bz (lc (body := fun s : (List (List UInt8)) × (Option AD) => B4.b1 s.1 s.2) 16 s1 (lc 15 s2 (lc 14 s3 (lc 13 s4 (SO 12 (en _ _ n4)))))) ?_
  show (if (0 : Int) ≤ 0 ∧ (0 : Int) < (F3 (F3 (F3 (F3 s.Bi)))).length then _ else _) = _
  rw [if_pos (by omega)]
  rfl
noncomputable def leaves (seed : List UInt8) : List (List UInt8) := (List.range 16).map fun (i : Nat) => Hk (Mh seed (i : Int))
theorem JO {ps : List (List UInt8)} (h : ps.length = 64) (hp : ∀ p ∈ ps, p.length = 32) : (Hk ps).length = 32 := ((Je h hp).H 3).2
theorem Kp {seed : List UInt8} (h : seed.length = 32) : (leaves seed).length = 16 ∧ ∀ p ∈ leaves seed, p.length = 32 := by
  refine ⟨by simp [leaves], fun p hp => ?_⟩
  obtain ⟨j, _, rfl⟩ := List.mem_map.1 hp
  exact JO (Ix h _).1 (Ix h _).2
theorem O6 (L : Option AD) {seed : List UInt8} (h : seed.length = 32) : ∃ L', DY L seed = some (⟨seed, 0, leaves seed⟩, L') ∧ (L = none → L' = none) := by
  obtain ⟨c, h1, h2⟩ := B7 (body := fun s : Int × (Option AD) × (Option Am) => DY.b1 seed s.1 s.2.1 s.2.2)
    (fun s => ∃ i : Nat, i ≤ 16 ∧ s.1 = (i : Int) ∧ (L = none → s.2.1 = none) ∧ s.2.2 = some ⟨seed, 0, (List.range i).map fun (i : Nat) => Hk (Mh seed (i : Int))⟩)
    (fun c => match c with | .next s => (L = none → s.2.1 = none) ∧ s.2.2 = some ⟨seed, 0, leaves seed⟩ | .ret _ => False) (fun s => (16 - s.1).toNat)
    (fun s ⟨i, hi, q1, q2, q3⟩ => by
      obtain ⟨x, lg, w⟩ := s
      have q1 : x = (i : Int) := q1
      have q3 : w = _ := q3
      subst q1 q3
      by_cases hlt : i < 16
      · obtain ⟨lg', a1, a2⟩ := Oz lg h (i : Int)
        refine .inl ⟨(((i + 1 : Nat) : Int), lg', _), ?_, ⟨i + 1, by omega, rfl, fun e => a2 (q2 e), rfl⟩, by simp; omega⟩
        show DY.b1 seed (i : Int) lg _ = _
        unfold DY.b1
        rw [if_pos (by simp; omega)]
        refine Ax rfl (Ax a1 ?_)
        rw [if_pos (by simp [CW]; omega), Er (by omega), List.range_succ, List.map_append]
        rfl
      · have : i = 16 := by omega
        subst this
        refine .inr (.inl ⟨((16 : Nat), lg, _), ?_, q2, rfl⟩)
        show DY.b1 seed 16 lg _ = _
        unfold DY.b1
        rw [if_neg (by simp)]
        rfl) ((16 - 0 : Int).toNat + 2) (0, L, some ⟨seed, 0, []⟩) ⟨0, by omega, rfl, fun e => e, rfl⟩ (by simp)
  unfold DY
  cases c with
  | ret r => exact h2.elim
  | next s =>
    obtain ⟨i, lg, w⟩ := s
    obtain ⟨h2, h3⟩ : (L = none → lg = none) ∧ w = some ⟨seed, 0, leaves seed⟩ := h2
    subst h3
    exact ⟨lg, Bz h1 rfl, h2⟩
end

section
set_option linter.unusedVariables false

end

section
set_option linter.unusedVariables false

/-- Up from a leaf, along a path. -/
noncomputable def ER : List (List UInt8) → Nat → List UInt8 → List UInt8
  | [], _, w => w
  | p :: ps, n, w => ER ps (n / 2) (if n % 2 = 1 then nd p w else nd w p)
theorem RL (n : Nat) : shr .i64 (n : Int) 1 = ((n / 2 : Nat) : Int) := by
  unfold shr
  have : min (1 : Int).toNat IntKind.i64.bits = 1 := by simp [IntKind.bits]
  rw [this, Int.fdiv_eq_ediv_of_nonneg _ (by exact Int.le_of_lt (Int.pow_pos (by decide)))]
  simp
theorem NM {l : List (List UInt8)} {i : Nat} (hi : i < l.length) : l.drop i = l.getD i default :: l.drop (i + 1) := by
  rw [List.drop_eq_getElem_cons hi]; simp [List.getD, hi]
theorem Oq (L : Option AD) {w : List UInt8} (hw : w.length = 32) (n : Nat) (hn : n < 1000000) {path : List (List UInt8)} (hp : ∀ p ∈ path, p.length = 32) (hl : path.length ≤ 1000) :
    ∃ L', Cj L w (n : Int) path = some (ER path n w, L') ∧ (L = none → L' = none) := by
  obtain ⟨c, h1, h2⟩ := B7 (body := fun s : Int × Int × (Option AD) × (List UInt8) => Cj.b1 path s.1 s.2.1 s.2.2.1 s.2.2.2)
    (fun s => ∃ (i m : Nat) (lg : Option AD) (cur : List UInt8), i ≤ path.length ∧ m < 1000000 ∧ s = ((m : Int), (i : Int), lg, cur) ∧ ER (path.drop i) m cur = ER path n w ∧ cur.length = 32 ∧ (L = none → lg = none))
    (fun c => match c with | .next s => (L = none → s.2.2.1 = none) ∧ s.2.2.2 = ER path n w | .ret _ => False) (fun s => (path.length - s.2.1).toNat)
    (fun s ⟨i, m, lg, cur, hi, hm, hs, hc, h32, hL⟩ => by
      subst hs
      by_cases hlt : i < path.length
      · have hq := Et hp hlt
        rw [NM hlt, ER] at hc
        have hpo : (path.length : Int) - ((i + 1 : Nat) : Int) < path.length - (i : Int) := by omega
        by_cases hb : m % 2 = 1
        · obtain ⟨lg', a1, a2⟩ := MS lg hq h32
          rw [if_pos hb] at hc
          refine .inl ⟨(((m / 2 : Nat) : Int), ((i + 1 : Nat) : Int), lg', nd (path.getD i default) cur), ?_, ⟨i + 1, m / 2, lg', _, by omega, by omega, rfl, hc, Kk hq h32, fun e => a2 (hL e)⟩, by simp; omega⟩
          show Cj.b1 path (m : Int) (i : Int) lg cur = _
          unfold Cj.b1
          rw [II, if_pos (by simp; omega), if_pos (by omega), if_pos (by simp; omega)]
          refine Ax a1 ?_
          unfold Cj.j1
          rw [RL, Er (by omega)]
          rfl
        · obtain ⟨lg', a1, a2⟩ := MS lg h32 hq
          rw [if_neg hb] at hc
          refine .inl ⟨(((m / 2 : Nat) : Int), ((i + 1 : Nat) : Int), lg', nd cur (path.getD i default)), ?_, ⟨i + 1, m / 2, lg', _, by omega, by omega, rfl, hc, Kk h32 hq, fun e => a2 (hL e)⟩, by simp; omega⟩
          show Cj.b1 path (m : Int) (i : Int) lg cur = _
          unfold Cj.b1
          rw [II, if_pos (by simp; omega), if_pos (by omega), if_neg (by simp; omega)]
          refine Ax a1 ?_
          unfold Cj.j1
          rw [RL, Er (by omega)]
          rfl
      · have : i = path.length := by omega
        subst this
        rw [List.drop_length, ER] at hc
        refine .inr (.inl ⟨((m : Int), ((path.length : Nat) : Int), lg, cur), ?_, hL, hc⟩)
        show Cj.b1 path (m : Int) (path.length : Int) lg cur = _
        unfold Cj.b1
        rw [if_neg (by simp)]) (((path.length : Int) - 0 : Int).toNat + 2) ((n : Int), 0, L, w) ⟨0, n, L, w, by omega, hn, rfl, rfl, hw, fun e => e⟩ (by simp)
  unfold Cj
  cases c with
  | ret r => exact h2.elim
  | next s =>
    obtain ⟨x, y, lg, cur⟩ := s
    obtain ⟨h2, h3⟩ : (L = none → lg = none) ∧ cur = ER path n w := h2
    subst h3
    exact ⟨lg, Bz h1 rfl, h2⟩
/-- Is a signature right under a root? -/
noncomputable def KL (root d : List UInt8) (s : AE) : Bool :=
  decide (0 ≤ s.Cc) && decide (s.Cc < 16) && decide (s.Dk.length = 4) && decide (s.Dl.length = 32) && decide (s.CZ.length = 32) &&
    decide (ER s.Dk s.Cc.toNat (Hk (MP d s.Dl s.CZ)) = root)
def KE (s : AE) : Prop := (∀ p ∈ s.Dl, p.length = 32) ∧ (∀ p ∈ s.CZ, p.length = 32) ∧ ∀ p ∈ s.Dk, p.length = 32
theorem HJ {root d : List UInt8} {s : AE} (h : ¬(0 ≤ s.Cc ∧ s.Cc < 16 ∧ s.Dk.length = 4)) : KL root d s = false := by
  unfold KL
  by_cases h1 : 0 ≤ s.Cc
  · by_cases h2 : s.Cc < 16
    · have h3 : ¬ s.Dk.length = 4 := fun e => h ⟨h1, h2, e⟩
      simp [h3]
    · simp [h2]
  · simp [h1]
theorem LX {root d : List UInt8} {s : AE} (h : ¬(s.Dl.length = 32 ∧ s.CZ.length = 32)) : KL root d s = false := by
  unfold KL
  by_cases h1 : s.Dl.length = 32
  · have h3 : ¬ s.CZ.length = 32 := fun e => h ⟨h1, e⟩
    simp [h3]
  · simp [h1]
theorem K0 (L : Option AD) (root d : List UInt8) {s : AE} (hs : KE s) : ∃ L', Ct L root d s = some (KL root d s, L') ∧ (L = none → L' = none) := by
  unfold Ct
  by_cases h1 : 0 ≤ s.Cc
  · rw [if_neg (by simp; omega)]
    by_cases h2 : s.Cc < 16
    · rw [if_neg (by simp; omega)]
      unfold Ct.j1
      by_cases h3 : s.Dk.length = 4
      · rw [if_neg (by simp [h3])]
        by_cases h4 : s.Dl.length = 32 ∧ s.CZ.length = 32
        · obtain ⟨L1, a1, b1⟩ := Og L d ⟨h4.1, hs.1⟩ ⟨h4.2, hs.2.1⟩
          obtain ⟨n, hn⟩ : ∃ n : Nat, s.Cc = (n : Int) := ⟨s.Cc.toNat, by omega⟩
          have hol := Iz (d := d) ⟨h4.1, hs.1⟩ ⟨h4.2, hs.2.1⟩
          obtain ⟨L2, a2, b2⟩ := Oq L1 (JO hol.1 hol.2) n (by omega) hs.2.2 (by omega)
          refine ⟨L2, ?_, fun e => b2 (b1 e)⟩
          refine Ax a1 ?_
          rw [if_pos rfl, hn]
          refine Ax a2 ?_
          unfold Ct.j2 KL
          simp [hn, h3, h4.1, h4.2, show (n : Int) < 16 by omega]
        · refine ⟨L, ?_, fun e => e⟩
          refine Ax (Of L d h4) ?_
          rw [if_neg (by simp), LX h4]
          rfl
      · rw [if_pos (by simp; omega), HJ (fun h => h3 h.2.2)]
        exact ⟨L, rfl, fun e => e⟩
    · rw [if_pos (by simp; omega), HJ (fun h => h2 h.2.1)]
      exact ⟨L, rfl, fun e => e⟩
  · rw [if_pos (by simp; omega), HJ (fun h => h1 h.1)]
    exact ⟨L, rfl, fun e => e⟩
end

section
set_option linter.unusedVariables false

theorem KZ {x : Int} (h : 0 ≤ x ∧ x < 4294967296) : Dn x = some (H0 x) := by
  unfold Dn H0
  rw [Ih (by omega), Oy h, Rx]
  rfl
def Sl (home : Int) (a b : List UInt8) : List (List UInt8) := [H0 home, a, b]
theorem NO {home : Int} {a b : List UInt8} (ha : a.length = 32) (hb : b.length = 32) : Small (Sl home a b) := ⟨fun p hp => by
  simp only [Sl, List.mem_cons, List.not_mem_nil, or_false] at hp
  rcases hp with rfl | rfl | rfl
  · simp [H0, HC]
  · omega
  · omega, by simp [Sl]⟩
noncomputable def Kz (home : Int) (a b : List UInt8) : List UInt8 := H (KJ 7 (Sl home a b))
theorem MC (L : Option AD) {home : Int} (hh : 0 ≤ home ∧ home < 4294967296) {a b : List UInt8} (ha : a.length = 32) (hb : b.length = 32) : ∃ L', EI L home a b = some (Kz home a b, L') ∧ (L = none → L' = none) := by
  obtain ⟨L', h1, h2⟩ := PL L 7 (NO (home := home) ha hb)
  refine ⟨L', ?_, h2⟩
  unfold EI
  exact Ax (KZ hh) (Ax (F1 ha) (Ax (F1 hb) (Ax h1 rfl)))
end

section
set_option linter.unusedVariables false

/-- The neighbour of a place. -/
def L7 (n : Nat) : Nat := if n % 2 = 1 then n - 1 else n + 1
theorem JU {n m : Nat} (h : n < 2 * m) : L7 n < 2 * m := by unfold L7; split <;> omega
theorem Sq (n : Nat) (h : n < 16) : bits .xor .i64 (n : Int) 1 = ((L7 n : Nat) : Int) := by
  have : ∀ n : Fin 16, bits .xor .i64 ((n.val : Nat) : Int) 1 = ((L7 n.val : Nat) : Int) := by decide
  exact this ⟨n, h⟩
noncomputable def Nx (l : List (List UInt8)) (i : Nat) : List (List UInt8) := [l.getD (L7 i) default, (F3 l).getD (L7 (i / 2)) default, (F3 (F3 l)).getD (L7 (i / 2 / 2)) default, (F3 (F3 (F3 l))).getD (L7 (i / 2 / 2 / 2)) default]
theorem Oe {l : List (List UInt8)} (hl : l.length = 16) (h : ∀ p ∈ l, p.length = 32) {i : Nat} (hi : i < 16) : ∀ p ∈ Nx l i, p.length = 32 := by
  obtain ⟨n1, h1, n2, h2, n3, h3, _⟩ := levels hl h
  have s0 := JU (n := i) (m := 8) (by omega)
  have s1 := JU (n := i / 2) (m := 4) (by omega)
  have s2 := JU (n := i / 2 / 2) (m := 2) (by omega)
  have s3 := JU (n := i / 2 / 2 / 2) (m := 1) (by omega)
  intro p hp
  simp only [Nx, List.mem_cons, List.not_mem_nil, or_false] at hp
  rcases hp with rfl | rfl | rfl | rfl
  · exact Et h (by omega)
  · exact Et h1 (by omega)
  · exact Et h2 (by omega)
  · exact Et h3 (by omega)
theorem Rr (n : Nat) (h : n < 16) : IntKind.wrap .i64 ((n : Int).tdiv 2) = ((n / 2 : Nat) : Int) := by
  rw [Int.tdiv_eq_ediv_of_nonneg (by omega), Er (by omega)]
  omega
theorem OX (L : Option AD) {s : Am} (hl : s.Bi.length = 16) (h : ∀ p ∈ s.Bi, p.length = 32) {i : Nat} (hi : i < 16) : ∃ L', Ca s L (i : Int) = some (Nx s.Bi i, L') ∧ (L = none → L' = none) := by
  obtain ⟨n1, h1, n2, h2, n3, h3, n4, h4⟩ := levels hl h
  obtain ⟨L1, a1, b1⟩ := Jk L (by omega) h
  obtain ⟨L2, a2, b2⟩ := Jk L1 (by omega) h1
  obtain ⟨L3, a3, b3⟩ := Jk L2 (by omega) h2
  obtain ⟨L4, a4, b4⟩ := Jk L3 (by omega) h3
  refine ⟨L4, ?_, fun e => b4 (b3 (b2 (b1 e)))⟩
  have st : ∀ (n m : Nat) (x : List (List UInt8)) (lg lg' : Option AD) (w : List (List UInt8)), n < 16 → n < 2 * m → 0 < m → x.length = 2 * m → w.length < 100 → D8 lg x = some (F3 x, lg') → Ca.b1 (n : Int) x lg w = some (.cont (((n / 2 : Nat) : Int), F3 x, lg', w ++ [x.getD (L7 n) default])) := by
    intro n m x lg lg' w hn hnm hm hx1 hw hu
    have hs := JU hnm
    have e1 : ((L7 n : Nat) : Int).toNat = L7 n := by omega
    unfold Ca.b1
    rw [Sq n hn, Rr n hn, if_pos (by simp; omega), if_pos (by omega), if_pos (by simp [CW]; omega), e1]
    exact Ax hu rfl
  have en : ∀ (n : Int) (x : List (List UInt8)) (lg : Option AD) (w : List (List UInt8)), x.length = 1 → Ca.b1 n x lg w = some (.brk (n, x, lg, w)) := by
    intro n x lg w hx1
    unfold Ca.b1
    rw [if_neg (by simp; omega)]
  have s1 := st i 8 s.Bi L L1 [] (by omega) (by omega) (by omega) (by omega) (by simp) a1
  have s2 := st (i / 2) 4 _ L1 L2 ([] ++ [s.Bi.getD (L7 i) default]) (by omega) (by omega) (by omega) (by omega) (by simp) a2
  have s3 := st (i / 2 / 2) 2 _ L2 L3 (([] ++ [s.Bi.getD (L7 i) default]) ++ [(F3 s.Bi).getD (L7 (i / 2)) default]) (by omega) (by omega) (by omega) (by omega) (by simp) a3
  have s4 := st (i / 2 / 2 / 2) 1 _ L3 L4 ((([] ++ [s.Bi.getD (L7 i) default]) ++ [(F3 s.Bi).getD (L7 (i / 2)) default]) ++ [(F3 (F3 s.Bi)).getD (L7 (i / 2 / 2)) default]) (by omega) (by omega) (by omega) (by omega) (by simp) a4
  unfold Ca
  have hf : ((s.Bi.length : Int) - 1 : Int).toNat + 2 = 17 := by omega
  rw [hf]
  refine Bz (lc (body := fun s : Int × (List (List UInt8)) × (Option AD) × (List (List UInt8)) => Ca.b1 s.1 s.2.1 s.2.2.1 s.2.2.2) 16 s1 (lc 15 s2 (lc 14 s3 (lc 13 s4 (SO 12 (en _ _ _ _ n4)))))) ?_
  rfl
/-- What a key signs. -/
noncomputable def PX (seed : List UInt8) (ls : List (List UInt8)) (i : Nat) (d : List UInt8) : AE := ⟨(i : Int), Q5 seed (i : Int) d, Q6 seed (i : Int) d, Nx ls i⟩
theorem PD (L : Option AD) {s : Am} (hs : s.CV.length = 32) (hl : s.Bi.length = 16) (h : ∀ p ∈ s.Bi, p.length = 32) {i : Nat} (hi : i < 16) (d : List UInt8) : ∃ L', BQ s L (i : Int) d = some (PX s.CV s.Bi i d, 0, L') ∧ (L = none → L' = none) := by
  obtain ⟨L1, a1, b1⟩ := sign_eq L hs (i : Int) d
  obtain ⟨L2, a2, b2⟩ := OX L1 hl h hi
  refine ⟨L2, ?_, fun e => b2 (b1 e)⟩
  unfold BQ
  rw [if_neg (by simp [hl]), if_neg (by simp <;> omega)]
  unfold BQ.j1
  rw [if_neg (by simp <;> omega)]
  exact Ax a1 (Ax a2 rfl)
theorem PC (L : Option AD) {s : Am} {i : Int} (h : ¬(s.Bi.length = 16 ∧ 0 ≤ i ∧ i < 16)) (d : List UInt8) : BQ s L i d = some (⟨0, [], [], []⟩, 2, L) := by
  unfold BQ
  by_cases h1 : s.Bi.length = 16
  · rw [if_neg (by simp [h1])]
    by_cases h2 : i < 0
    · rw [if_pos (by simp [h2])]
      unfold BQ.j1
      rw [if_pos rfl]
    · rw [if_neg (by simp; omega)]
      unfold BQ.j1
      rw [if_pos (by simp; omega)]
  · rw [if_pos (by simp; omega)]
    unfold BQ.j1
    rw [if_pos rfl]
theorem N4 (L : Option AD) {s : Am} (hs : s.CV.length = 32) (hl : s.Bi.length = 16) (h : ∀ p ∈ s.Bi, p.length = 32) {i : Nat} (hi : i < 16) (hn : s.CH = (i : Int)) (d : List UInt8) : ∃ L', BI s L d = some (⟨s.CV, (i : Int) + 1, s.Bi⟩, PX s.CV s.Bi i d, 0, L') ∧ (L = none → L' = none) := by
  obtain ⟨L1, a1, b1⟩ := PD L hs hl h hi d
  have hc : BO s.Bi = some s.Bi := by
    unfold BO
    rw [if_pos (by omega)]
  refine ⟨L1, ?_, b1⟩
  unfold BI
  rw [hn, if_neg (by simp <;> omega)]
  unfold BI.j1
  rw [if_neg (by simp <;> omega), hn]
  refine Ax a1 ?_
  rw [if_neg (by simp)]
  refine Ax hc ?_
  rw [Er (by omega)]
theorem Ln (L : Option AD) {s : Am} (h : ¬(0 ≤ s.CH ∧ s.CH < 16)) (d : List UInt8) : BI s L d = some (s, ⟨0, [], [], []⟩, 22, L) := by
  unfold BI
  by_cases h1 : s.CH < 0
  · rw [if_pos (by simp [h1])]
    unfold BI.j1
    rw [if_pos rfl]
  · rw [if_neg (by simp; omega)]
    unfold BI.j1
    rw [if_pos (by simp; omega)]
theorem MV (L : Option AD) {s : Am} (h : 0 ≤ s.CH ∧ s.CH < 16) (hl : s.Bi.length ≠ 16) (d : List UInt8) : BI s L d = some (s, ⟨0, [], [], []⟩, 2, L) := by
  unfold BI
  rw [if_neg (by simp; omega)]
  unfold BI.j1
  rw [if_neg (by simp; omega)]
  refine Ax (PC L (fun q => hl q.1) d) ?_
  rw [if_pos (by simp)]
theorem PW {seed : List UInt8} (h : seed.length = 32) {ls : List (List UInt8)} (hl : ls.length = 16) (h32 : ∀ p ∈ ls, p.length = 32) {i : Nat} (hi : i < 16) (d : List UInt8) : KE (PX seed ls i d) := ⟨(PY h (i : Int) d).2, (PZ h (i : Int) d).2, Oe hl h32 hi⟩
end
end Go.Proofs.YteboiefnflipjaaGreatDoor
