/- Plain laws: P62, P74, P76, P77, P78, as one text. -/
import Derived.Test.YteboiefnflipjaaGreatDoorP7
import Derived.Test.YteboiefnflipjaaGreatDoorP32
import Derived.Test.YteboiefnflipjaaGreatDoorP55
import Derived.Test.YteboiefnflipjaaGreatDoorP39
namespace Go.Proofs.YteboiefnflipjaaGreatDoor
open Go Go.RowKit Go.Proofs
section
set_option linter.unusedVariables false

end

section
set_option linter.unusedVariables false

theorem QG {a b : List UInt8} (ha : a.length = 32) (hb : b.length = 32) : ∃ d, DR none a b = some (d, none) ∧ d.length = 32 := by
  obtain ⟨L', h1, h2⟩ := PL none 6 (GD ha hb)
  rw [h2 rfl] at h1
  refine ⟨H (KJ 6 [a, b]), ?_, ((GD ha hb).H 6).2⟩
  unfold DR
  refine Ax (x := (H (KJ 6 [a, b]), none)) ?_ rfl
  unfold C8
  exact Ax (F1 ha) (Ax (F1 hb) (Ax h1 rfl))
def Eb (l : List (List UInt8)) : Prop := ∀ p ∈ l, p.length = 32
theorem Eb.set {l : List (List UInt8)} (h : Eb l) {d : List UInt8} (hd : d.length = 32) (i : Nat) : Eb (l.set i d) := fun p hp => by
  rcases List.mem_or_eq_of_mem_set hp with q | q
  · exact h p q
  · rw [q]; exact hd
theorem Eb.snoc {l : List (List UInt8)} (h : Eb l) {d : List UInt8} (hd : d.length = 32) : Eb (l ++ [d]) := fun p hp => by
  rcases List.mem_append.1 hp with q | q
  · exact h p q
  · rw [List.mem_singleton.1 q]; exact hd
theorem Mr : ∃ l, Ci none = some (l, none) ∧ l.length = 33 ∧ Eb l := by
  obtain ⟨c, h1, h2⟩ := B7 (body := fun s : Int × (Option AD) × (List (List UInt8)) => Ci.b1 s.1 s.2.1 s.2.2) (fun s => (0 ≤ s.1 ∧ s.1 ≤ 32) ∧ s.2.1 = none ∧ s.2.2.length = 33 ∧ Eb s.2.2) (fun c => match c with | .next s => s.2.1 = none ∧ s.2.2.length = 33 ∧ Eb s.2.2 | .ret _ => False) (fun s => (32 - s.1).toNat)
    (fun s ⟨hi, hn, hl, ha⟩ => by
      obtain ⟨i, L, l⟩ := s
      simp only at hi hn hl ha
      subst hn
      by_cases q : i < 32
      · have hg := Et ha (i := i.toNat) (by omega)
        obtain ⟨d, e1, e2⟩ := QG hg hg
        refine .inl ⟨(i + 1, none, l.set (i + 1).toNat d), ?_, ⟨by show 0 ≤ i + 1 ∧ i + 1 ≤ 32; omega, rfl, by simpa using hl, ha.set e2 _⟩, by show (32 - (i + 1)).toNat < (32 - i).toNat; omega⟩
        show Ci.b1 i none l = _
        unfold Ci.b1
        rw [Er (x := i + 1) (by omega), if_pos (decide_eq_true q), if_pos (by omega)]
        refine Ax e1 ?_
        rw [if_pos (by omega)]
      · refine .inr (.inl ⟨(i, none, l), ?_, rfl, hl, ha⟩)
        show Ci.b1 i none l = _
        unfold Ci.b1
        rw [if_neg (by rw [decide_eq_false q]; decide)]) ((32 - 0 : Int).toNat + 2) (0, none, List.replicate 33 (List.replicate 32 0)) ⟨by decide, rfl, by simp, fun p hp => by rw [(List.mem_replicate.1 hp).2]; simp⟩ (by decide)
  cases c with
  | ret _ => exact h2.elim
  | next s =>
    obtain ⟨i, L, l⟩ := s
    obtain ⟨e1, e2, e3⟩ : L = none ∧ l.length = 33 ∧ Eb l := h2
    subst e1
    exact ⟨l, by unfold Ci; exact Bz h1 rfl, e2, e3⟩
theorem SI {l : List (List UInt8)} (hl : l.length ≤ 5000) (h : Eb l) {d : List UInt8} (hd : d.length = 32) : ∃ m, Cp none l d = some (m, none) ∧ m.length ≤ l.length ∧ Eb m := by
  obtain ⟨c, h1, h2⟩ := B7 (body := fun s : Int × (Option AD) × (List (List UInt8)) => Cp.b1 l d s.1 s.2.1 s.2.2) (fun s => ∃ i : Nat, s.1 = ((2 * i : Nat) : Int) ∧ (2 * i ≤ l.length + 1) ∧ s.2.1 = none ∧ s.2.2.length = i ∧ Eb s.2.2) (fun c => match c with | .next s => s.2.1 = none ∧ s.2.2.length ≤ l.length ∧ Eb s.2.2 | .ret _ => False) (fun s => (l.length + 1 - s.1).toNat)
    (fun s ⟨i, hi, hle, hn, hm, ha⟩ => by
      obtain ⟨x, L, m⟩ := s
      simp only at hi hn hm ha
      subst hn
      subst hi
      by_cases q : 2 * i < l.length
      · have hg := Et h (i := 2 * i) q
        have e2i : ((2 * i : Nat) : Int).toNat = 2 * i := by omega
        have key : ∀ e : List UInt8, e.length = 32 → ∃ f, Cp.j1 l ((2 * i : Nat) : Int) none m e = some (.cont (((2 * (i + 1) : Nat) : Int), none, m ++ [f])) ∧ f.length = 32 := fun e he => by
          obtain ⟨f, f1, f2⟩ := QG hg he
          refine ⟨f, ?_, f2⟩
          unfold Cp.j1
          rw [if_pos (by omega), e2i]
          refine Ax f1 ?_
          rw [if_pos (by simp [CW]; omega), Er (by omega)]
          have : ((2 * i : Nat) : Int) + 2 = ((2 * (i + 1) : Nat) : Int) := by omega
          rw [this]
        have fin : ∀ e : List UInt8, e.length = 32 → Cp.b1 l d ((2 * i : Nat) : Int) none m = Cp.j1 l ((2 * i : Nat) : Int) none m e → ∃ s', Cp.b1 l d ((2 * i : Nat) : Int) none m = some (.cont s') ∧ (∃ i' : Nat, s'.1 = ((2 * i' : Nat) : Int) ∧ (2 * i' ≤ l.length + 1) ∧ s'.2.1 = none ∧ s'.2.2.length = i' ∧ Eb s'.2.2) ∧ ((l.length : Int) + 1 - s'.1).toNat < ((l.length : Int) + 1 - ((2 * i : Nat) : Int)).toNat := fun e he hb => by
          obtain ⟨f, f1, f2⟩ := key e he
          exact ⟨_, hb.trans f1, ⟨i + 1, rfl, by omega, rfl, by simp [hm], ha.snoc f2⟩, by show ((l.length : Int) + 1 - ((2 * (i + 1) : Nat) : Int)).toNat < _; omega⟩
        refine .inl ?_
        by_cases w : 2 * i + 1 < l.length
        · have hg2 := Et h (i := 2 * i + 1) w
          refine fin _ hg2 ?_
          unfold Cp.b1
          have e3 : ((2 * i : Nat) : Int) + 1 = ((2 * i + 1 : Nat) : Int) := by omega
          have e4 : ((2 * i + 1 : Nat) : Int).toNat = 2 * i + 1 := by omega
          rw [Er (x := ((2 * i : Nat) : Int) + 1) (by omega), e3, if_pos (decide_eq_true (by omega)), if_pos (decide_eq_true (by omega)), if_pos (by omega), e4]
        · refine fin d hd ?_
          unfold Cp.b1
          rw [Er (x := ((2 * i : Nat) : Int) + 1) (by omega), if_pos (decide_eq_true (by omega)), if_neg (by rw [decide_eq_false (by omega)]; decide)]
      · refine .inr (.inl ⟨(((2 * i : Nat) : Int), none, m), ?_, rfl, by show m.length ≤ l.length; omega, ha⟩)
        show Cp.b1 l d ((2 * i : Nat) : Int) none m = _
        unfold Cp.b1
        rw [if_neg (by rw [decide_eq_false (by omega)]; decide)]) (((l.length : Int) - 0 : Int).toNat + 2) (0, none, []) ⟨0, rfl, by omega, rfl, rfl, fun p hp => by cases hp⟩ (by show ((l.length : Int) + 1 - 0).toNat < ((l.length : Int) - 0).toNat + 2; omega)
  cases c with
  | ret _ => exact h2.elim
  | next s =>
    obtain ⟨i, L, m⟩ := s
    obtain ⟨e1, e2, e3⟩ : L = none ∧ m.length ≤ l.length ∧ Eb m := h2
    subst e1
    exact ⟨m, by unfold Cp; exact Bz h1 rfl, e2, e3⟩
theorem SM {l : List (List UInt8)} (hl : l.length ≤ 4096) (h : Eb l) : ∃ d, Dz none l = some (d, none) ∧ d.length = 32 := by
  obtain ⟨z, z1, z2, z3⟩ := Mr
  have hm : (if (4096 : Int) < (l.length : Int) then (4096 : Int) else (l.length : Int)) = (l.length : Int) := by rw [if_neg (by omega)]
  have ht : ((l.take ((l.length : Nat) : Int).toNat).drop (0 : Int).toNat) = l := by
    rw [show ((l.length : Nat) : Int).toNat = l.length by omega, List.take_length]
    rfl
  obtain ⟨c, h1, h2⟩ := B7 (body := fun s : (List (List UInt8)) × Int × (Option AD) => Dz.b1 (z, none) s.1 s.2.1 s.2.2) (fun s => (0 ≤ s.2.1 ∧ s.2.1 ≤ 32) ∧ s.2.2 = none ∧ s.1.length ≤ 4096 ∧ Eb s.1) (fun c => match c with | .next s => s.2.2 = none ∧ Eb s.1 | .ret _ => False) (fun s => (32 - s.2.1).toNat)
    (fun s ⟨hi, hn, hs, ha⟩ => by
      obtain ⟨m, i, L⟩ := s
      simp only at hi hn hs ha
      subst hn
      by_cases q : i < 32
      · obtain ⟨m', e1, e2, e3⟩ := SI (l := m) (by omega) ha (Et z3 (i := i.toNat) (by omega))
        refine .inl ⟨(m', i + 1, none), ?_, ⟨by show 0 ≤ i + 1 ∧ i + 1 ≤ 32; omega, rfl, by show m'.length ≤ 4096; omega, e3⟩, by show (32 - (i + 1)).toNat < (32 - i).toNat; omega⟩
        show Dz.b1 (z, none) m i none = _
        unfold Dz.b1
        rw [if_pos (decide_eq_true q), if_pos (by omega)]
        refine Ax e1 ?_
        rw [Er (by omega)]
      · refine .inr (.inl ⟨(m, i, none), ?_, rfl, ha⟩)
        show Dz.b1 (z, none) m i none = _
        unfold Dz.b1
        rw [if_neg (by rw [decide_eq_false q]; decide)]) ((32 - 0 : Int).toNat + 2) (l, 0, none) ⟨by show (0 : Int) ≤ 0 ∧ (0 : Int) ≤ 32; decide, rfl, hl, h⟩ (by show ((32 : Int) - 0).toNat < ((32 : Int) - 0).toNat + 2; decide)
  unfold Dz
  rw [hm, ht, if_pos (by omega)]
  cases c with
  | ret _ => exact h2.elim
  | next s =>
    obtain ⟨m, i, L⟩ := s
    obtain ⟨e1, e2⟩ : L = none ∧ Eb m := h2
    subst e1
    by_cases q : m.length = 0
    · refine ⟨z.getD 32 default, Ax z1 (Bz h1 ?_), Et z3 (by omega)⟩
      show (if _ then _ else _) = _
      rw [if_pos (decide_eq_true (by omega))]
      rfl
    · refine ⟨m.getD 0 default, Ax z1 (Bz h1 ?_), Et e2 (by omega)⟩
      show (if _ then _ else _) = _
      rw [if_neg (by rw [decide_eq_false (by omega)]; decide), if_pos (by omega)]
      rfl
end

section
set_option linter.unusedVariables false
set_option linter.unusedSimpArgs false

/- The first place of a key in a list of keys. -/
theorem JL (P : Nat → Bool) : ∀ n, fi P n < 0 ↔ ∀ i, i < n → P i ≠ true
  | 0 => by simp [fi]
  | n + 1 => by
    have ih := JL P n
    have hr := GS P n
    rw [D9]
    by_cases a : 0 ≤ fi P n
    · rw [if_pos a]
      constructor
      · intro h; omega
      · intro h
        exact ih.2 (fun i hi => h i (by omega))
    · rw [if_neg a]
      have h0 := ih.1 (by omega)
      by_cases b : P n = true
      · rw [if_pos b]
        constructor
        · intro h; omega
        · intro h; exact absurd b (h n (by omega))
      · rw [if_neg b]
        constructor
        · intro _ i hi
          by_cases e : i = n
          · subst e; exact b
          · exact h0 i (by omega)
        · intro _; decide
theorem Kw (P : Nat → Bool) : ∀ n i, i < n → P i = true → (∀ j, j < i → P j ≠ true) → fi P n = (i : Int)
  | 0, i, h, _, _ => by omega
  | n + 1, i, h, hp, hj => by
    rw [D9]
    by_cases e : i = n
    · subst e
      have := (JL P i).2 hj
      rw [if_neg (by omega), if_pos hp]
    · have := Kw P n i (by omega) hp hj
      rw [if_pos (by omega), this]
/- Keys of roots and of states. -/
theorem Kl {α : Type} (l : List α) (d : α) (i : Nat) (h : i < l.length) : l.getD i d ∈ l := by
  have : l.getD i d = l[i] := by simp [List.getD, h]
  rw [this]; exact List.getElem_mem _
theorem MX (r : Aa) (d : List UInt8) : 0 ≤ Gg r d ↔ d ∈ r.Ay.map (·.Bt) := by
  constructor
  · intro h
    have h1 := Nt r d h
    have h2 := Ns r d
    exact List.mem_map.2 ⟨_, Kl _ _ _ (by omega), h1⟩
  · intro h
    obtain ⟨t, ht, e⟩ := List.mem_map.1 h
    obtain ⟨j, hj, rfl⟩ := List.mem_iff_getElem.1 ht
    apply Classical.byContradiction
    intro q
    have := (JL (fun i => JY d (r.Ay.getD i default)) r.Ay.length).1 (by show Gg r d < 0; omega) j hj
    apply this
    show decide ((r.Ay.getD j default).Bt = d) = true
    rw [show r.Ay.getD j default = r.Ay[j] by simp [List.getD, hj]]
    exact decide_eq_true e
theorem K1 (l : List Al) (d : List UInt8) : -1 ≤ DK l d ∧ DK l d < l.length := GS _ _
theorem Nr (l : List Al) (d : List UInt8) (h : 0 ≤ DK l d) : (l.getD (DK l d).toNat default).BJ = d :=
  of_decide_eq_true (Pl (fun i => JS d (l.getD i default)) l.length h)
theorem Q3 (l : List Al) (d : List UInt8) : 0 ≤ DK l d ↔ d ∈ l.map (·.BJ) := by
  constructor
  · intro h
    have h1 := Nr l d h
    have h2 := K1 l d
    exact List.mem_map.2 ⟨_, Kl _ _ _ (by omega), h1⟩
  · intro h
    obtain ⟨t, ht, e⟩ := List.mem_map.1 h
    obtain ⟨j, hj, rfl⟩ := List.mem_iff_getElem.1 ht
    apply Classical.byContradiction
    intro q
    have := (JL (fun i => JS d (l.getD i default)) l.length).1 (by show DK l d < 0; omega) j hj
    apply this
    show decide ((l.getD j default).BJ = d) = true
    rw [show l.getD j default = l[j] by simp [List.getD, hj]]
    exact decide_eq_true e
theorem Ms {α : Type} {l : List α} (h : l.Nodup) {i j : Nat} (hi : i < l.length) (hj : j < l.length) (e : l[i] = l[j]) : i = j := by
  have hp := List.pairwise_iff_getElem.1 h
  rcases Nat.lt_trichotomy i j with q | q | q
  · exact absurd e (hp i j hi hj q)
  · exact q
  · exact absurd e.symm (hp j i hj hi q)
theorem Ra (r : Aa) (h : (r.Ay.map (·.Bt)).Nodup) (i : Nat) (hi : i < r.Ay.length) : Gg r (r.Ay.getD i default).Bt = (i : Int) := by
  have e : ∀ j, j < r.Ay.length → (r.Ay.getD j default).Bt = (r.Ay.map (·.Bt)).getD j [] := fun j hj => by simp [List.getD, hj]
  refine Kw _ _ i hi (decide_eq_true rfl) (fun j hj q => ?_)
  have q := of_decide_eq_true q
  have hj' : j < r.Ay.length := by omega
  have := Ms h (i := j) (j := i) (by simpa using hj') (by simpa using hi) (by simp only [List.getElem_map]; rw [show r.Ay.getD j default = r.Ay[j] by simp [List.getD, hj'], show r.Ay.getD i default = r.Ay[i] by simp [List.getD, hi]] at q; exact q)
  omega
theorem OI (l : List Al) (h : (l.map (·.BJ)).Nodup) (i : Nat) (hi : i < l.length) : DK l (l.getD i default).BJ = (i : Int) := by
  refine Kw _ _ i hi (decide_eq_true rfl) (fun j hj q => ?_)
  have q := of_decide_eq_true q
  have hj' : j < l.length := by omega
  have := Ms h (i := j) (j := i) (by simpa using hj') (by simpa using hi) (by simp only [List.getElem_map]; rw [show l.getD j default = l[j] by simp [List.getD, hj'], show l.getD i default = l[i] by simp [List.getD, hi]] at q; exact q)
  omega
/- What is right. -/
structure Ft (r : Aa) : Prop where
  ro : (r.Ay.map (·.Bt)).Nodup
  st : (r.Ah.map (·.BJ)).Nodup
  ok : ∀ s ∈ r.Ah, (s.BD = 1 ∨ s.BD = 2) ∧ s.Bt ∈ r.Ay.map (·.Bt)
  rl : r.Ay.length ≤ 256
  sl : r.Ah.length ≤ 4096
/- A letter that is Done. -/
def Ha (r : Aa) (d : List UInt8) : Prop := ∃ s ∈ r.Ah, s.BJ = d ∧ s.BD = 2
theorem Qt {r : Aa} (R : Ft r) {d : List UInt8} (h : Ha r d) : 0 ≤ DK r.Ah d ∧ (r.Ah.getD (DK r.Ah d).toNat default).BD = 2 := by
  obtain ⟨s, hs, e, e2⟩ := h
  obtain ⟨j, hj, rfl⟩ := List.mem_iff_getElem.1 hs
  have hg : r.Ah.getD j default = r.Ah[j] := by simp [List.getD, hj]
  have := OI r.Ah R.st j hj
  rw [hg, e] at this
  rw [this]
  refine ⟨by omega, ?_⟩
  rw [show ((j : Nat) : Int).toNat = j by omega, hg]
  exact e2
noncomputable def F2 (r : Aa) (d : List UInt8) (now : Int) : Int := if Gg r d < 0 then 31 else if now < (r.Ay.getD (Gg r d).toNat default).GU then 36 else 0
/- A letter's states with another one. -/
noncomputable def FX (l : List Al) (s : Al) : List Al := if 0 ≤ DK l s.BJ then l.set (DK l s.BJ).toNat s else l ++ [s]
theorem Lq {α β : Type} (f : α → β) (l : List α) (i : Nat) (x : α) (d : α) (h : i < l.length) (e : f x = f (l.getD i d)) : (l.set i x).map f = l.map f := by
  apply List.ext_getElem
  · simp
  · intro j h1 h2
    simp only [List.getElem_map, List.getElem_set]
    split
    · rename_i q
      subst q
      rw [e]; simp [List.getD, h]
    · rfl
theorem K5 {r : Aa} (R : Ft r) {s : Al} (h1 : s.BD = 1 ∨ s.BD = 2) (h2 : s.Bt ∈ r.Ay.map (·.Bt)) (h3 : DK r.Ah s.BJ < 0 → r.Ah.length < 4096) :
    Ft ⟨r.AX, r.BC, r.AQ, r.AP, r.A4, r.AN, r.Ay, FX r.Ah s, r.Bj, r.BR⟩ := by
  have hl := K1 r.Ah s.BJ
  refine ⟨R.ro, ?_, ?_, R.rl, ?_⟩
  · show ((FX r.Ah s).map (·.BJ)).Nodup
    unfold FX
    by_cases q : 0 ≤ DK r.Ah s.BJ
    · rw [if_pos q, Lq _ _ _ _ default (by omega) (Nr _ _ q).symm]
      exact R.st
    · rw [if_neg q, List.map_append, List.nodup_append]
      refine ⟨R.st, by simp, ?_⟩
      intro a ha b hb e
      subst e
      have := (Q3 r.Ah a).2 ha
      rw [List.map_singleton, List.mem_singleton] at hb
      rw [hb] at this
      exact q this
  · intro t ht
    have ht : t ∈ FX r.Ah s := ht
    unfold FX at ht
    split at ht
    · rcases List.mem_or_eq_of_mem_set ht with q | q
      · exact R.ok t q
      · subst q; exact ⟨h1, h2⟩
    · rcases List.mem_append.1 ht with q | q
      · exact R.ok t q
      · rw [List.mem_singleton] at q
        subst q; exact ⟨h1, h2⟩
  · show (FX r.Ah s).length ≤ 4096
    unfold FX
    split
    · simp; exact R.sl
    · have := h3 (by omega)
      simp; omega
theorem Nw (l : List Al) (s : Al) : (FX l s).length ≤ l.length + 1 := by
  unfold FX
  split <;> simp
theorem Mg {r : Aa} {s : Al} (h : s.BD = 2 ∨ ¬ (0 ≤ DK r.Ah s.BJ ∧ (r.Ah.getD (DK r.Ah s.BJ).toNat default).BD = 2)) {d : List UInt8} (hd : Ha r d) :
    Ha ⟨r.AX, r.BC, r.AQ, r.AP, r.A4, r.AN, r.Ay, FX r.Ah s, r.Bj, r.BR⟩ d := by
  obtain ⟨t, ht, e, e2⟩ := hd
  have hl := K1 r.Ah s.BJ
  show ∃ t ∈ FX r.Ah s, t.BJ = d ∧ t.BD = 2
  unfold FX
  by_cases q : 0 ≤ DK r.Ah s.BJ
  · rw [if_pos q]
    obtain ⟨j, hj, rfl⟩ := List.mem_iff_getElem.1 ht
    by_cases z : j = (DK r.Ah s.BJ).toNat
    · have hg : r.Ah.getD j default = r.Ah[j] := by simp [List.getD, hj]
      have ha := Nr _ _ q
      rw [← z, hg] at ha h
      rcases h with h | h
      · refine ⟨s, ?_, by rw [← ha]; exact e, h⟩
        exact List.mem_iff_getElem.2 ⟨j, by simpa using hj, by simp [z]⟩
      · exact absurd ⟨q, e2⟩ h
    · refine ⟨r.Ah[j], List.mem_iff_getElem.2 ⟨j, by simpa using hj, ?_⟩, e, e2⟩
      rw [List.getElem_set_ne (by omega)]
  · rw [if_neg q]
    exact ⟨t, List.mem_append_left _ ht, e, e2⟩
theorem Rk (r : Aa) (s : Al) (h : s.BD = 2) : Ha ⟨r.AX, r.BC, r.AQ, r.AP, r.A4, r.AN, r.Ay, FX r.Ah s, r.Bj, r.BR⟩ s.BJ := by
  have hl := K1 r.Ah s.BJ
  show ∃ t ∈ FX r.Ah s, t.BJ = s.BJ ∧ t.BD = 2
  unfold FX
  split
  · exact ⟨s, List.mem_iff_getElem.2 ⟨(DK r.Ah s.BJ).toNat, by simp; omega, by simp⟩, rfl, h⟩
  · exact ⟨s, List.mem_append_right _ (by simp), rfl, h⟩
/- The answers. -/
noncomputable def H8 (r : Aa) (now : Int) (leaf : List UInt8) (i : Nat) (br : List (List UInt8)) : Aa × Int :=
  if r.Bj = true then (r, 30) else if r.BR = true then (r, 34) else if br.length ≠ 32 then (r, 35) else
  if F2 r (GX br i leaf) now ≠ 0 then (r, F2 r (GX br i leaf) now) else
  if 0 ≤ DK r.Ah leaf ∧ (r.Ah.getD (DK r.Ah leaf).toNat default).BD = 2 then (r, 37) else
  if DK r.Ah leaf < 0 ∧ 4096 ≤ r.Ah.length then (r, 6) else
  (⟨r.AX, r.BC, r.AQ, r.AP, r.A4, r.AN, r.Ay, FX r.Ah ⟨leaf, 1, GX br i leaf⟩, r.Bj, r.BR⟩, 0)
noncomputable def Hc (r : Aa) (now : Int) (x : Ar) : Aa × Int :=
  if r.Bj = true then (r, 30) else if r.BR = true then (r, 34) else if ¬ (x.FQ = r.BC ∧ x.D3 = r.AX) then (r, 38) else
  if DK r.Ah (GN x) < 0 ∨ (r.Ah.getD (DK r.Ah (GN x)).toNat default).BD ≠ 1 then (r, 37) else
  if F2 r (r.Ah.getD (DK r.Ah (GN x)).toNat default).Bt now ≠ 0 then (r, F2 r (r.Ah.getD (DK r.Ah (GN x)).toNat default).Bt now) else
  (⟨r.AX, r.BC, r.AQ, r.AP, r.A4, r.AN, r.Ay, FX r.Ah ⟨GN x, 2, (r.Ah.getD (DK r.Ah (GN x)).toNat default).Bt⟩, r.Bj, r.BR⟩, 0)
theorem NN {r : Aa} {d : List UInt8} {now : Int} (h : F2 r d now = 0) : d ∈ r.Ay.map (·.Bt) := by
  refine (MX r d).1 ?_
  unfold F2 at h
  split at h
  · exact absurd h (by decide)
  · omega
/- Of the replica's own things, that no act changes. -/
def Kept (r q : Aa) : Prop := q.AX = r.AX ∧ q.BC = r.BC ∧ q.AQ = r.AQ ∧ q.AP = r.AP ∧ q.A4 = r.A4 ∧ q.Ay.length ≤ r.Ay.length + 1 ∧ q.Ah.length ≤ r.Ah.length + 1 ∧ ∀ d, Ha r d → Ha q d
theorem Kept.refl (r : Aa) : Kept r r := ⟨rfl, rfl, rfl, rfl, rfl, by omega, by omega, fun _ h => h⟩
theorem OW {r : Aa} (R : Ft r) (now : Int) (leaf : List UInt8) (i : Nat) (br : List (List UInt8)) : Ft (H8 r now leaf i br).1 ∧ Kept r (H8 r now leaf i br).1 := by
  unfold H8
  split
  · exact ⟨R, .refl r⟩
  split
  · exact ⟨R, .refl r⟩
  split
  · exact ⟨R, .refl r⟩
  split
  · exact ⟨R, .refl r⟩
  rename_i hc
  split
  · exact ⟨R, .refl r⟩
  rename_i hd
  split
  · exact ⟨R, .refl r⟩
  rename_i hm
  refine ⟨K5 R (.inl rfl) (NN (Decidable.not_not.1 hc)) (fun q => ?_), rfl, rfl, rfl, rfl, rfl, by simp only; omega, Nw _ _, fun d h => Mg (.inr hd) h⟩
  have : DK r.Ah leaf < 0 := q
  omega
theorem PU {r : Aa} (R : Ft r) (now : Int) (x : Ar) : Ft (Hc r now x).1 ∧ Kept r (Hc r now x).1 ∧ ((Hc r now x).2 = 0 → r.BR = false ∧ ¬ Ha r (GN x) ∧ Ha (Hc r now x).1 (GN x)) := by
  unfold Hc
  split
  · exact ⟨R, .refl r, fun h => absurd h (by simp)⟩
  split
  · exact ⟨R, .refl r, fun h => absurd h (by simp)⟩
  rename_i hcut
  split
  · exact ⟨R, .refl r, fun h => absurd h (by simp)⟩
  split
  · exact ⟨R, .refl r, fun h => absurd h (by simp)⟩
  rename_i hs
  split
  · rename_i hc
    exact ⟨R, .refl r, fun h => absurd h hc⟩
  rename_i hc
  have hs1 : (r.Ah.getD (DK r.Ah (GN x)).toNat default).BD = 1 := Classical.byContradiction fun q => hs (.inr q)
  have hs0 : 0 ≤ DK r.Ah (GN x) := by have : ¬ DK r.Ah (GN x) < 0 := fun q => hs (.inl q); omega
  refine ⟨K5 R (.inr rfl) (NN (Decidable.not_not.1 hc)) (fun q => ?_), ⟨rfl, rfl, rfl, rfl, rfl, by simp only; omega, Nw _ _, fun d h => Mg (.inl rfl) h⟩, fun _ => ⟨by simpa using hcut, fun q => ?_, Rk r _ rfl⟩⟩
  · have : DK r.Ah (GN x) < 0 := q
    omega
  · have := (Qt R q).2
    omega
theorem MG {r : Aa} (R : Ft r) (now : Int) (u : AI) : Ft (GL r now u).1 ∧ Kept r (GL r now u).1 := by
  unfold GL
  split
  · exact ⟨R, .refl r⟩
  split
  · exact ⟨R, .refl r⟩
  rename_i hm
  split
  · exact ⟨R, .refl r⟩
  have hl := Ns r u.BN
  refine ⟨⟨?_, R.st, ?_, ?_, R.sl⟩, rfl, rfl, rfl, rfl, rfl, ?_, by simp only; omega, fun _ h => h⟩
  · show ((H3 r u.BN (now + r.A4)).map (·.Bt)).Nodup
    unfold H3
    by_cases q : 0 ≤ Gg r u.BN
    · rw [if_pos q, Lq _ _ _ _ default (by omega) (Nt _ _ q).symm]
      exact R.ro
    · rw [if_neg q, List.map_append, List.nodup_append]
      refine ⟨R.ro, by simp, ?_⟩
      intro a ha b hb e
      subst e
      have := (MX r a).2 ha
      rw [List.map_singleton, List.mem_singleton] at hb
      rw [hb] at this
      exact q this
  · intro s hs
    obtain ⟨h1, h2⟩ := R.ok s hs
    refine ⟨h1, ?_⟩
    show s.Bt ∈ (H3 r u.BN (now + r.A4)).map (·.Bt)
    unfold H3
    by_cases q : 0 ≤ Gg r u.BN
    · rw [if_pos q, Lq _ _ _ _ default (by omega) (Nt _ _ q).symm]
      exact h2
    · rw [if_neg q, List.map_append]
      exact List.mem_append_left _ h2
  · show (H3 r u.BN (now + r.A4)).length ≤ 256
    unfold H3
    have := R.rl
    split
    · simp; omega
    · simp; omega
  · show (H3 r u.BN (now + r.A4)).length ≤ r.Ay.length + 1
    unfold H3
    split
    · simp
    · simp
theorem Ph {r : Aa} (R : Ft r) (s : A1) : Ft (Ib r s).1 ∧ Kept r (Ib r s).1 := by
  unfold Ib
  split
  · exact ⟨R, .refl r⟩
  split
  · exact ⟨R, .refl r⟩
  split
  · exact ⟨R, .refl r⟩
  split
  · exact ⟨R, .refl r⟩
  exact ⟨⟨R.ro, R.st, R.ok, R.rl, R.sl⟩, rfl, rfl, rfl, rfl, rfl, by simp only; omega, by simp only; omega, fun _ h => h⟩
end

section
set_option linter.unusedVariables false
set_option linter.unusedSimpArgs false

theorem Lc (r : Aa) (d : List UInt8) (now : Int) (hl : r.Ay.length < 1000000) : Eh r d now = some (F2 r d now) := by
  have h := Ns r d
  unfold Eh F2
  refine Ax (Hr r d hl) ?_
  by_cases q : Gg r d < 0
  · rw [if_pos (decide_eq_true q), if_pos q]
  · rw [if_neg (by rw [decide_eq_false q]; decide), if_pos ⟨by omega, h.2⟩, if_neg q]
    by_cases z : now < (r.Ay.getD (Gg r d).toNat default).GU
    · rw [if_pos (decide_eq_true z), if_pos z]
    · rw [if_neg (by rw [decide_eq_false z]; decide), if_neg z]
/- A loop that looks for the first place of a kind. -/
theorem Nj {P : Nat → Bool} {n i : Nat} (hi : i < n) (hf : fi P i = -1) (hp : P i = true) : fi P n = (i : Int) := by
  have e2 : fi P (i + 1) = (i : Int) := by rw [D9, hf, if_neg (by decide), if_pos hp]
  have e3 := IK P (i + 1) (by rw [e2]; omega) (n - (i + 1))
  rw [show i + 1 + (n - (i + 1)) = n by omega, e2] at e3
  exact e3
theorem LH {P : Nat → Bool} {i : Nat} (hf : fi P i = -1) (hp : P i ≠ true) : fi P (i + 1) = -1 := by
  rw [D9, hf, if_neg (by decide), if_neg hp]
theorem Kc (r : Aa) (d : List UInt8) (now : Int) (hl : r.Ay.length < 1000000) : BA r d now = some (F2 r d now) := by
  unfold BA
  obtain ⟨c, h1, h2⟩ := B7 (body := fun s : Int => BA.b1 r d now s) (fun s => ∃ i : Nat, i ≤ r.Ay.length ∧ s = (i : Int) ∧ fi (fun i => JY d (r.Ay.getD i default)) i = -1)
      (fun c => match c with | .next s => F2 r d now = 31 | .ret k => k = F2 r d now) (fun s => (r.Ay.length - s).toNat)
      (fun s ⟨i, hi, hs, hf⟩ => by
        subst hs
        have e1 : ((i : Nat) : Int).toNat = i := by omega
        by_cases q : i < r.Ay.length
        · by_cases w : (r.Ay.getD i default).Bt = d
          · have e4 : Gg r d = (i : Int) := Nj q hf (by show JY _ _ = true; unfold JY; exact decide_eq_true w)
            have ec : F2 r d now = if now < (r.Ay.getD i default).GU then 36 else 0 := by
              unfold F2
              rw [e4, if_neg (by omega), e1]
            rw [ec]
            by_cases z : now < (r.Ay.getD i default).GU
            · refine .inr (.inr ⟨36, ?_, by rw [if_pos z]⟩)
              show BA.b1 r d now (i : Int) = _
              unfold BA.b1
              rw [if_pos (by simp; omega), if_pos (by omega), e1, if_pos (decide_eq_true w), if_pos (decide_eq_true z)]
            · refine .inr (.inr ⟨0, ?_, by rw [if_neg z]⟩)
              show BA.b1 r d now (i : Int) = _
              unfold BA.b1
              rw [if_pos (by simp; omega), if_pos (by omega), e1, if_pos (decide_eq_true w), if_neg (by rw [decide_eq_false z]; decide)]
          · refine .inl ⟨((i + 1 : Nat) : Int), ?_, ⟨i + 1, by omega, rfl, LH hf (by show JY _ _ ≠ true; unfold JY; rw [decide_eq_false w]; decide)⟩, by simp; omega⟩
            show BA.b1 r d now (i : Int) = _
            unfold BA.b1
            rw [if_pos (by simp; omega), if_pos (by omega), e1, if_neg (by rw [decide_eq_false w]; decide), Er (by omega)]
            rfl
        · have : i = r.Ay.length := by omega
          refine .inr (.inl ⟨(i : Int), ?_, ?_⟩)
          · show BA.b1 r d now (i : Int) = _
            unfold BA.b1
            rw [if_neg (by simp; omega)]
          · show F2 r d now = 31
            unfold F2
            rw [if_pos (by unfold Gg; rw [← this, hf]; decide)]) (((r.Ay.length : Int) - 0 : Int).toNat + 2) 0 ⟨0, by omega, rfl, rfl⟩ (by simp)
  cases c with
  | ret k =>
    have h2 : k = F2 r d now := h2
    subst h2
    exact Ax h1 rfl
  | next s =>
    have h2 : F2 r d now = 31 := h2
    rw [h2]
    exact Bz h1 rfl
theorem JZ (r : Aa) (d : List UInt8) (hl : r.Ah.length < 1000000) : Cr r d = some (if 0 ≤ DK r.Ah d then ((r.Ah.getD (DK r.Ah d).toNat default).BD, (r.Ah.getD (DK r.Ah d).toNat default).Bt) else (0, List.replicate 32 0)) := by
  unfold Cr
  obtain ⟨c, h1, h2⟩ := B7 (body := fun s : Int => Cr.b1 r d s) (fun s => ∃ i : Nat, i ≤ r.Ah.length ∧ s = (i : Int) ∧ fi (fun i => JS d (r.Ah.getD i default)) i = -1)
      (fun c => match c with | .next s => DK r.Ah d < 0 | .ret k => 0 ≤ DK r.Ah d ∧ k = ((r.Ah.getD (DK r.Ah d).toNat default).BD, (r.Ah.getD (DK r.Ah d).toNat default).Bt)) (fun s => (r.Ah.length - s).toNat)
      (fun s ⟨i, hi, hs, hf⟩ => by
        subst hs
        have e1 : ((i : Nat) : Int).toNat = i := by omega
        by_cases q : i < r.Ah.length
        · by_cases w : (r.Ah.getD i default).BJ = d
          · have e4 : DK r.Ah d = (i : Int) := Nj q hf (by show JS _ _ = true; unfold JS; exact decide_eq_true w)
            refine .inr (.inr ⟨((r.Ah.getD i default).BD, (r.Ah.getD i default).Bt), ?_, by rw [e4]; omega, by rw [e4, e1]⟩)
            show Cr.b1 r d (i : Int) = _
            unfold Cr.b1
            rw [if_pos (by simp; omega), if_pos (by omega), e1, if_pos (decide_eq_true w)]
          · refine .inl ⟨((i + 1 : Nat) : Int), ?_, ⟨i + 1, by omega, rfl, LH hf (by show JS _ _ ≠ true; unfold JS; rw [decide_eq_false w]; decide)⟩, by simp; omega⟩
            show Cr.b1 r d (i : Int) = _
            unfold Cr.b1
            rw [if_pos (by simp; omega), if_pos (by omega), e1, if_neg (by rw [decide_eq_false w]; decide), Er (by omega)]
            rfl
        · have : i = r.Ah.length := by omega
          refine .inr (.inl ⟨(i : Int), ?_, ?_⟩)
          · show Cr.b1 r d (i : Int) = _
            unfold Cr.b1
            rw [if_neg (by simp; omega)]
          · show DK r.Ah d < 0
            unfold DK; rw [← this, hf]; decide) (((r.Ah.length : Int) - 0 : Int).toNat + 2) 0 ⟨0, by omega, rfl, rfl⟩ (by simp)
  cases c with
  | ret k =>
    obtain ⟨h2, h3⟩ : 0 ≤ DK r.Ah d ∧ k = _ := h2
    rw [if_pos h2]
    subst h3
    exact Ax h1 rfl
  | next s =>
    have h2 : DK r.Ah d < 0 := h2
    rw [if_neg (by omega)]
    exact Bz h1 rfl
theorem K3 (r : Aa) (d : List UInt8) (hl : r.Ah.length < 1000000) : CM r d = some (decide (0 ≤ DK r.Ah d)) := by
  unfold CM
  obtain ⟨c, h1, h2⟩ := B7 (body := fun s : Int => CM.b1 r d s) (fun s => ∃ i : Nat, i ≤ r.Ah.length ∧ s = (i : Int) ∧ fi (fun i => JS d (r.Ah.getD i default)) i = -1)
      (fun c => match c with | .next s => DK r.Ah d < 0 | .ret k => 0 ≤ DK r.Ah d ∧ k = true) (fun s => (r.Ah.length - s).toNat)
      (fun s ⟨i, hi, hs, hf⟩ => by
        subst hs
        have e1 : ((i : Nat) : Int).toNat = i := by omega
        by_cases q : i < r.Ah.length
        · by_cases w : (r.Ah.getD i default).BJ = d
          · have e4 : DK r.Ah d = (i : Int) := Nj q hf (by show JS _ _ = true; unfold JS; exact decide_eq_true w)
            refine .inr (.inr ⟨true, ?_, by rw [e4]; omega, rfl⟩)
            show CM.b1 r d (i : Int) = _
            unfold CM.b1
            rw [if_pos (by simp; omega), if_pos (by omega), e1, if_pos (decide_eq_true w)]
          · refine .inl ⟨((i + 1 : Nat) : Int), ?_, ⟨i + 1, by omega, rfl, LH hf (by show JS _ _ ≠ true; unfold JS; rw [decide_eq_false w]; decide)⟩, by simp; omega⟩
            show CM.b1 r d (i : Int) = _
            unfold CM.b1
            rw [if_pos (by simp; omega), if_pos (by omega), e1, if_neg (by rw [decide_eq_false w]; decide), Er (by omega)]
            rfl
        · have : i = r.Ah.length := by omega
          refine .inr (.inl ⟨(i : Int), ?_, ?_⟩)
          · show CM.b1 r d (i : Int) = _
            unfold CM.b1
            rw [if_neg (by simp; omega)]
          · show DK r.Ah d < 0
            unfold DK; rw [← this, hf]; decide) (((r.Ah.length : Int) - 0 : Int).toNat + 2) 0 ⟨0, by omega, rfl, rfl⟩ (by simp)
  cases c with
  | ret k =>
    obtain ⟨h2, h3⟩ : 0 ≤ DK r.Ah d ∧ k = true := h2
    subst h3
    rw [decide_eq_true h2]
    exact Ax h1 rfl
  | next s =>
    have h2 : DK r.Ah d < 0 := h2
    rw [decide_eq_false (by omega)]
    exact Bz h1 rfl
/- The climb without a log, as the document has it. -/
theorem OM {a b : List UInt8} (ha : a.length = 32) (hb : b.length = 32) : Dg none 6 a b = some (n6 a b, none) := by
  unfold Dg
  exact Ax (Fc ha) (Ax (Fc hb) (Ax (Kf 6 (GD ha hb)) rfl))
theorem Qu {d : List UInt8} (hd : d.length = 32) {i : Nat} (hi : i < 4294967296) {br : List (List UInt8)} (hb : ∀ p ∈ br, p.length = 32) (hl : br.length = 32) : BS none d (i : Int) br = some (GX br i d, none) := by
  unfold BS
  obtain ⟨c, h1, h2⟩ := B7 (body := fun s : Int × (Option A2) × (List UInt8) => BS.b1 (i : Int) br s.1 s.2.1 s.2.2) (fun s => ∃ (k : Nat), k ≤ br.length ∧ s = ((k : Int), none, GX (br.take k) i d))
      (fun c => match c with | .next s => s.2 = (none, GX br i d) | .ret _ => False) (fun s => (br.length - s.1).toNat)
      (fun s ⟨k, hk, hs⟩ => by
        subst hs
        have h32 : (GX (br.take k) i d).length = 32 := LK (fun p hp => hb p (List.mem_of_mem_take hp)) hd
        have e1 : ((k : Nat) : Int).toNat = k := by omega
        by_cases q : k < br.length
        · have hgt := Et hb q
          have hlen : (br.take k).length = k := by simp; omega
          have ht := LL (br.take k) (br.getD k default) i d
          rw [← OF br k q, hlen] at ht
          refine .inl ⟨(((k + 1 : Nat) : Int), none, GX (br.take (k + 1)) i d), ?_, ⟨k + 1, by omega, rfl⟩, by simp; omega⟩
          show BS.b1 (i : Int) br (k : Int) none _ = _
          unfold BS.b1 BS.j1
          rw [if_pos (by simp; omega), if_pos (by simp; omega)]
          refine Ax (Sb i k hi (by omega)) ?_
          by_cases w : i / 2 ^ k % 2 = 1
          · rw [if_pos (decide_eq_true w), if_pos (by omega), e1]
            refine Ax (OM hgt h32) ?_
            unfold BS.j2
            rw [Er (by omega), ht, if_pos w]
            rfl
          · rw [if_neg (by rw [decide_eq_false w]; decide), if_pos (by omega), e1]
            refine Ax (OM h32 hgt) ?_
            unfold BS.j2
            rw [Er (by omega), ht, if_neg w]
            rfl
        · have : k = br.length := by omega
          subst this
          rw [List.take_length]
          refine .inr (.inl ⟨((br.length : Int), none, GX br i d), ?_, rfl⟩)
          show BS.b1 (i : Int) br (br.length : Int) none _ = _
          unfold BS.b1 BS.j1
          rw [if_neg (by simp), if_neg (by decide)]) 100000 (0, none, d) ⟨0, by omega, rfl⟩ (by simp [hl])
  cases c with
  | ret _ => exact h2.elim
  | next s =>
    obtain ⟨s1, s2⟩ := s
    obtain rfl : s2 = (none, GX br i d) := h2
    exact Bz h1 rfl
/- The climb without a log, as the program has it. -/
theorem O5 {a b : List UInt8} (ha : a.length = 32) (hb : b.length = 32) : DR none a b = some (n6 a b, none) := by
  obtain ⟨L', h1, h2⟩ := PL none 6 (GD ha hb)
  rw [h2 rfl] at h1
  unfold DR
  refine Ax (x := (n6 a b, none)) ?_ rfl
  unfold C8
  exact Ax (F1 ha) (Ax (F1 hb) (Ax h1 rfl))
theorem Rv {d : List UInt8} (hd : d.length = 32) {i : Nat} (hi : i < 4294967296) {br : List (List UInt8)} (hb : ∀ p ∈ br, p.length = 32) (hl : br.length = 32) : B6 none d (i : Int) br = some (GX br i d, none) := by
  have hm : (if (32 : Int) < (br.length : Int) then (32 : Int) else (br.length : Int)) = 32 := by rw [hl]; rfl
  have hw : (br.take (if (32 : Int) < (br.length : Int) then (32 : Int) else (br.length : Int)).toNat).drop (0 : Int).toNat = br := by
    rw [hm]
    show (br.take 32).drop 0 = br
    rw [List.take_of_length_le (by omega)]; rfl
  unfold B6
  rw [if_pos (by rw [hm, hl]; decide)]
  obtain ⟨c, h1, h2⟩ := B7 (body := fun s : Int × (Option AD) × (List UInt8) => B6.b1 (i : Int) br s.1 s.2.1 s.2.2) (fun s => ∃ k : Nat, k ≤ br.length ∧ s = ((k : Int), none, GX (br.take k) i d)) (fun c => match c with | .next s => s.2 = (none, GX br i d) | .ret _ => False) (fun s => (br.length - s.1).toNat)
      (fun s ⟨k, hk, hs⟩ => by
        subst hs
        have h32 : (GX (br.take k) i d).length = 32 := LK (fun p hp => hb p (List.mem_of_mem_take hp)) hd
        have e1 : ((k : Nat) : Int).toNat = k := by omega
        by_cases q : k < br.length
        · have hgt := Et hb q
          have hlen : (br.take k).length = k := by simp; omega
          have ht := LL (br.take k) (br.getD k default) i d
          rw [← OF br k q, hlen] at ht
          refine .inl ⟨(((k + 1 : Nat) : Int), none, GX (br.take (k + 1)) i d), ?_, ⟨k + 1, by omega, rfl⟩, by simp; omega⟩
          show B6.b1 (i : Int) br (k : Int) none _ = _
          unfold B6.b1
          rw [hw, if_pos (by simp; omega), if_pos (by omega), if_pos (by omega)]
          by_cases w : i / 2 ^ k % 2 = 1
          · rw [if_pos (decide_eq_true ((QN i k hi (by omega)).2 w)), e1]
            refine Ax (O5 hgt h32) ?_
            unfold B6.j1
            rw [Er (by omega), ht, if_pos w]
            rfl
          · rw [if_neg (by rw [decide_eq_false (fun z => w ((QN i k hi (by omega)).1 z))]; decide), e1]
            refine Ax (O5 h32 hgt) ?_
            unfold B6.j1
            rw [Er (by omega), ht, if_neg w]
            rfl
        · have : k = br.length := by omega
          subst this
          refine .inr (.inl ⟨((br.length : Int), none, GX br i d), ?_, rfl⟩)
          show B6.b1 (i : Int) br (br.length : Int) none _ = _
          unfold B6.b1
          rw [hw, if_neg (by simp), List.take_length]) (((((br.take (if (32 : Int) < (br.length : Int) then (32 : Int) else (br.length : Int)).toNat).drop (0 : Int).toNat).length : Int) - 0 : Int).toNat + 2) (0, none, d) ⟨0, by omega, rfl⟩ (by rw [hw]; simp)
  cases c with
  | ret _ => exact h2.elim
  | next s =>
    obtain ⟨s1, s2⟩ := s
    obtain rfl : s2 = (none, GX br i d) := h2
    exact Bz h1 rfl
/- The program's answers. -/
theorem RX {x : Ar} (h : ML x) : EE none x = some (GN x, none) := by
  obtain ⟨L, a1, a2⟩ := PL none 5 (LC h)
  rw [a2 rfl] at a1
  obtain ⟨f, n, t, a, b, c⟩ := h
  unfold EE
  refine Ax (x := RD x) ?_ (Ax a1 rfl)
  unfold EL
  refine Ax (KZ f) (Ax (KZ n) ?_)
  rw [if_pos (by simp only [OA, CW]; omega)]
  refine Ax (KZ t) ?_
  rw [if_pos (by simp only [List.length_append, OA, CW]; omega)]
  refine Ax (Ik _ (by omega)) ?_
  rw [if_pos (by simp only [List.length_append, OA, Rp, CW]; omega)]
  refine Ax (Ik _ (by omega)) ?_
  rw [if_pos (by simp only [List.length_append, OA, Rp, CW]; omega)]
  refine Ax (Ik _ (by omega)) ?_
  rw [if_pos (by simp only [List.length_append, OA, Rp, CW]; omega)]
  rfl
theorem N2 (r : Aa) (now : Int) {x : Ar} (h : ML x) (hr : r.Ay.length < 1000000) (hl : r.Ah.length < 100000) : BT none r now x = some ((Hc r now x).1, (Hc r now x).2, none) := by
  have hL := RX h
  have hlt := K1 r.Ah (GN x)
  have hat := Nr r.Ah (GN x)
  unfold BT Hc
  by_cases h1 : r.Bj = true
  · exact Ax (x := 30) (by unfold Cy; rw [if_pos h1]) (by rw [if_pos (by decide), if_pos h1])
  by_cases h2 : r.BR = true
  · exact Ax (x := 34) (by unfold Cy; rw [if_neg h1, if_pos h2]) (by rw [if_pos (by decide), if_neg h1, if_pos h2])
  have ho : Cy r = some 0 := by unfold Cy; rw [if_neg h1, if_neg h2]
  rw [if_neg h1, if_neg h2]
  have j1t : BT.j1 none r now x true = some (r, 38, none) := by
    unfold BT.j1
    rw [if_pos rfl]
  by_cases a : x.FQ = r.BC
  · by_cases b : x.D3 = r.AX
    · rw [if_neg (show ¬ ¬ (x.FQ = r.BC ∧ x.D3 = r.AX) from fun q => q ⟨a, b⟩)]
      refine Ax ho ?_
      rw [if_neg (by decide), if_neg (show ¬ (!decide (x.FQ = r.BC)) = true by rw [decide_eq_true a]; decide), decide_eq_true b]
      unfold BT.j1
      rw [if_neg (by decide)]
      refine Ax hL (Ax (IT r _ (by omega)) ?_)
      by_cases c : DK r.Ah (GN x) < 0
      · rw [if_pos (decide_eq_true c), if_pos (.inl c)]
        unfold BT.j2
        rw [if_pos rfl]
      · have hi : 0 ≤ DK r.Ah (GN x) ∧ DK r.Ah (GN x) < r.Ah.length := ⟨by omega, hlt.2⟩
        rw [if_neg (by rw [decide_eq_false c]; decide), if_pos hi]
        by_cases e : (r.Ah.getD (DK r.Ah (GN x)).toNat default).BD = 1
        · rw [decide_eq_true e, if_neg (show ¬ (DK r.Ah (GN x) < 0 ∨ (r.Ah.getD (DK r.Ah (GN x)).toNat default).BD ≠ 1) from fun q => q.elim c (fun z => z e))]
          unfold BT.j2
          rw [if_neg (by decide), if_pos hi]
          refine Ax (Lc r _ now hr) ?_
          by_cases f : F2 r (r.Ah.getD (DK r.Ah (GN x)).toNat default).Bt now = 0
          · rw [if_neg (by rw [decide_eq_true f]; decide), if_neg (fun q => q f)]
            refine Ax (x := r.Ah) (by unfold Cq; rw [if_pos (by omega)]) ?_
            rw [if_pos hi]
            unfold FX
            rw [if_pos (show 0 ≤ DK r.Ah (Al.mk (GN x) 2 (r.Ah.getD (DK r.Ah (GN x)).toNat default).Bt).BJ from hi.1), hat hi.1]
          · rw [if_pos (by rw [decide_eq_false f]; decide), if_pos f]
        · rw [decide_eq_false e, if_pos (show DK r.Ah (GN x) < 0 ∨ (r.Ah.getD (DK r.Ah (GN x)).toNat default).BD ≠ 1 from .inr e)]
          unfold BT.j2
          rw [if_pos (by decide)]
    · rw [if_pos (show ¬ (x.FQ = r.BC ∧ x.D3 = r.AX) from fun q => b q.2)]
      refine Ax ho ?_
      rw [if_neg (by decide), if_neg (show ¬ (!decide (x.FQ = r.BC)) = true by rw [decide_eq_true a]; decide), decide_eq_false b]
      exact j1t
  · rw [if_pos (show ¬ (x.FQ = r.BC ∧ x.D3 = r.AX) from fun q => a q.1)]
    refine Ax ho ?_
    rw [if_neg (by decide), if_pos (show (!decide (x.FQ = r.BC)) = true by rw [decide_eq_false a]; rfl)]
    exact j1t
theorem M5 (r : Aa) (now : Int) {d : List UInt8} (hd : d.length = 32) {i : Nat} (hi : i < 4294967296) {br : List (List UInt8)} (hb : ∀ p ∈ br, p.length = 32) (hr : r.Ay.length < 1000000) (hl : r.Ah.length < 100000) :
    BG none r now d (i : Int) br = some ((H8 r now d i br).1, (H8 r now d i br).2, none) := by
  have hlt := K1 r.Ah d
  unfold BG H8
  by_cases h1 : r.Bj = true
  · exact Ax (x := 30) (by unfold Cy; rw [if_pos h1]) (by rw [if_pos (by decide), if_pos h1])
  by_cases h2 : r.BR = true
  · exact Ax (x := 34) (by unfold Cy; rw [if_neg h1, if_pos h2]) (by rw [if_pos (by decide), if_neg h1, if_pos h2])
  have ho : Cy r = some 0 := by unfold Cy; rw [if_neg h1, if_neg h2]
  rw [if_neg h1, if_neg h2]
  refine Ax ho ?_
  rw [if_neg (by decide)]
  by_cases a : br.length = 32
  · rw [if_neg (by rw [decide_eq_true (show (br.length : Int) = 32 by omega)]; decide), if_neg (show ¬ br.length ≠ 32 from fun q => q a)]
    refine Ax (Rv hd hi hb a) (Ax (Lc r _ now hr) ?_)
    by_cases c : F2 r (GX br i d) now = 0
    · rw [if_neg (by simp [c]), if_neg (show ¬ F2 r (GX br i d) now ≠ 0 from fun q => q c)]
      refine Ax (IT r d (by omega)) ?_
      have j2 : ∀ b : Bool, (b = true ↔ DK r.Ah d < 0 ∧ 4096 ≤ r.Ah.length) → BG.j2 r d (GX br i d, none) (DK r.Ah d) b = some ((if DK r.Ah d < 0 ∧ 4096 ≤ r.Ah.length then (r, 6) else
          ((⟨r.AX, r.BC, r.AQ, r.AP, r.A4, r.AN, r.Ay, FX r.Ah ⟨d, 1, GX br i d⟩, r.Bj, r.BR⟩ : Aa), (0 : Int))).1, (if DK r.Ah d < 0 ∧ 4096 ≤ r.Ah.length then (r, 6) else
          ((⟨r.AX, r.BC, r.AQ, r.AP, r.A4, r.AN, r.Ay, FX r.Ah ⟨d, 1, GX br i d⟩, r.Bj, r.BR⟩ : Aa), (0 : Int))).2, none) := by
        intro b hb
        unfold BG.j2
        by_cases q : DK r.Ah d < 0 ∧ 4096 ≤ r.Ah.length
        · rw [if_pos (hb.2 q), if_pos q]
        · rw [if_neg (fun w => q (hb.1 w)), if_neg q]
          refine Ax (x := r.Ah) (by unfold Cq; rw [if_pos (by omega)]) ?_
          unfold BG.j3 FX
          by_cases y : 0 ≤ DK r.Ah d
          · rw [if_pos (decide_eq_true y), if_pos ⟨y, hlt.2⟩, if_pos y]
          · rw [if_neg (by rw [decide_eq_false y]; decide), if_pos (by simp [CW]; omega), if_neg y]
      have j1f : ¬ (0 ≤ DK r.Ah d ∧ (r.Ah.getD (DK r.Ah d).toNat default).BD = 2) → BG.j1 r d (GX br i d, none) (DK r.Ah d) false = some ((if DK r.Ah d < 0 ∧ 4096 ≤ r.Ah.length then (r, 6) else
          ((⟨r.AX, r.BC, r.AQ, r.AP, r.A4, r.AN, r.Ay, FX r.Ah ⟨d, 1, GX br i d⟩, r.Bj, r.BR⟩ : Aa), (0 : Int))).1, (if DK r.Ah d < 0 ∧ 4096 ≤ r.Ah.length then (r, 6) else
          ((⟨r.AX, r.BC, r.AQ, r.AP, r.A4, r.AN, r.Ay, FX r.Ah ⟨d, 1, GX br i d⟩, r.Bj, r.BR⟩ : Aa), (0 : Int))).2, none) := by
        intro _
        unfold BG.j1
        rw [if_neg (by decide)]
        by_cases y : DK r.Ah d < 0
        · rw [if_pos (decide_eq_true y)]
          exact j2 _ (by simp only [y, true_and]; simp; omega)
        · rw [if_neg (by rw [decide_eq_false y]; decide)]
          exact j2 _ (by simp [y])
      by_cases y : 0 ≤ DK r.Ah d
      · rw [if_pos (decide_eq_true y), if_pos ⟨y, hlt.2⟩]
        by_cases z : (r.Ah.getD (DK r.Ah d).toNat default).BD = 2
        · rw [decide_eq_true z, if_pos ⟨y, z⟩]
          unfold BG.j1
          rw [if_pos rfl]
        · have hz : ¬ (0 ≤ DK r.Ah d ∧ (r.Ah.getD (DK r.Ah d).toNat default).BD = 2) := fun q => z q.2
          rw [decide_eq_false z, if_neg hz]
          exact j1f hz
      · have hz : ¬ (0 ≤ DK r.Ah d ∧ (r.Ah.getD (DK r.Ah d).toNat default).BD = 2) := fun q => y q.1
        rw [if_neg (by rw [decide_eq_false y]; decide), if_neg hz]
        exact j1f hz
    · rw [if_pos (by simp [c]), if_pos (show F2 r (GX br i d) now ≠ 0 from c)]
  · rw [if_pos (by rw [decide_eq_false (show ¬ (br.length : Int) = 32 by omega)]; decide), if_pos (show br.length ≠ 32 from a)]
/- The document's answers. -/
theorem Nu (r : Aa) (s : Al) (hl : r.Ah.length ≤ 100000) : BU r s = some ⟨r.AX, r.BC, r.AQ, r.AP, r.A4, r.AN, r.Ay, FX r.Ah s, r.Bj, r.BR⟩ := by
  generalize hP : (fun i => JS s.BJ (r.Ah.getD i default)) = P
  have hI : DK r.Ah s.BJ = fi P r.Ah.length := by rw [← hP]; rfl
  have hPi : ∀ i, P i = decide ((r.Ah.getD i default).BJ = s.BJ) := fun i => by rw [← hP]; rfl
  let R : Nat → List Al := fun i => if 0 ≤ fi P i then (r.Ah.take i).set (fi P i).toNat s else r.Ah.take i
  have hR : ∀ i, R i = if 0 ≤ fi P i then (r.Ah.take i).set (fi P i).toNat s else r.Ah.take i := fun i => rfl
  have hlen : ∀ i, i ≤ r.Ah.length → (R i).length = i := by
    intro i hi
    rw [hR]
    split <;> simp <;> omega
  obtain ⟨c, h1, h2⟩ := B7 (body := fun z : Bool × Int × (List (Al)) => BU.b1 r s z.1 z.2.1 z.2.2) (fun z => ∃ i : Nat, i ≤ r.Ah.length ∧ z = (decide (0 ≤ fi P i), (i : Int), R i))
      (fun c => match c with | .next z => z.1 = decide (0 ≤ fi P r.Ah.length) ∧ z.2.2 = R r.Ah.length | .ret _ => False) (fun z => (r.Ah.length - z.2.1).toNat)
      (fun z ⟨i, hi, hs⟩ => by
        subst hs
        have e1 : ((i : Nat) : Int).toNat = i := by omega
        by_cases q : i < r.Ah.length
        · refine .inl ⟨(decide (0 ≤ fi P (i + 1)), ((i + 1 : Nat) : Int), R (i + 1)), ?_, ⟨i + 1, by omega, rfl⟩, by simp; omega⟩
          show BU.b1 r s (decide (0 ≤ fi P i)) (i : Int) (R i) = _
          have hPq := hPi i
          have hrg := GS P i
          have hL := hlen i hi
          have e2 : IntKind.wrap .i64 ((i : Int) + 1) = ((i + 1 : Nat) : Int) := by rw [Er (by omega)]; rfl
          have hg : r.Ah.getD i default = r.Ah[i] := by simp [List.getD, q]
          have ht : r.Ah.take (i + 1) = r.Ah.take i ++ [r.Ah[i]] := List.take_succ_eq_append_getElem q
          have k3 : ∀ (b : Bool) (x : Al), BU.j2 (i : Int) (R i) b x = some (.cont (b, ((i + 1 : Nat) : Int), R i ++ [x])) := by
            intro b x
            unfold BU.j2
            rw [if_pos (by simp [CW]; omega), e2]
          have stay : ¬ (P i = true ∧ fi P i < 0) → R (i + 1) = R i ++ [r.Ah[i]] ∧ fi P (i + 1) = fi P i := by
            intro w
            have ef : fi P (i + 1) = fi P i := by
              rw [D9]
              by_cases a : 0 ≤ fi P i
              · rw [if_pos a]
              · rw [if_neg a, if_neg (fun b => w ⟨b, by omega⟩)]; omega
            refine ⟨?_, ef⟩
            rw [hR, hR, ef, ht]
            by_cases a : 0 ≤ fi P i
            · rw [if_pos a, if_pos a, List.set_append_left _ _ (by simp; omega)]
            · rw [if_neg a, if_neg a]
          unfold BU.b1
          rw [if_pos (by simp; omega), if_pos (by omega), e1]
          by_cases w : (r.Ah.getD i default).BJ = s.BJ
          · rw [if_pos (decide_eq_true w)]
            unfold BU.j1
            rw [e1]
            by_cases a : 0 ≤ fi P i
            · obtain ⟨s1, s2⟩ := stay (fun z => by omega)
              rw [decide_eq_true a, if_neg (by decide), k3, s1, s2, hg, decide_eq_true a]
            · rw [decide_eq_false a, if_pos (by decide), k3]
              have ef : fi P (i + 1) = (i : Int) := by
                rw [D9, if_neg a, if_pos (by rw [hPq]; exact decide_eq_true w)]
              have hR1 : R (i + 1) = R i ++ [s] := by
                rw [hR, hR, ef, if_pos (by omega), if_neg a, e1, ht, List.set_append_right _ _ (by simp; omega)]
                have : i - (r.Ah.take i).length = 0 := by simp; omega
                rw [this]; rfl
              rw [hR1, ef, decide_eq_true (show (0 : Int) ≤ (i : Int) by omega)]
          · rw [if_neg (by rw [decide_eq_false w]; decide)]
            obtain ⟨s1, s2⟩ := stay (fun z => by rw [hPq] at z; exact w (of_decide_eq_true z.1))
            unfold BU.j1
            rw [if_neg (by decide), e1, k3, s1, s2, hg]
        · have : i = r.Ah.length := by omega
          subst this
          refine .inr (.inl ⟨(decide (0 ≤ fi P r.Ah.length), (r.Ah.length : Int), R r.Ah.length), ?_, rfl, rfl⟩)
          show BU.b1 r s _ (r.Ah.length : Int) _ = _
          unfold BU.b1
          rw [if_neg (by simp)]) (((r.Ah.length : Int) - 0 : Int).toNat + 2) (false, 0, []) ⟨0, by omega, rfl⟩ (by simp)
  unfold BU
  cases c with
  | ret k => exact h2.elim
  | next z =>
    obtain ⟨a, b, c⟩ := z
    obtain ⟨e1, e2⟩ : a = decide (0 ≤ fi P r.Ah.length) ∧ c = R r.Ah.length := h2
    subst e1 e2
    refine Bz h1 ?_
    show (if (!decide (0 ≤ fi P r.Ah.length)) = true then _ else _) = _
    unfold BU.j3 FX
    rw [hI, hR, List.take_length]
    by_cases w : 0 ≤ fi P r.Ah.length
    · simp only [if_pos w]
      rw [decide_eq_true w, if_neg (by decide)]
    · simp only [if_neg w]
      rw [decide_eq_false w, if_pos (by decide), if_pos (by simp [CW]; omega)]
theorem ON (r : Aa) (now : Int) {x : Ar} (h : ML x) (hr : r.Ay.length < 1000000) (hl : r.Ah.length < 100000) : Dy none r now x = some ((Hc r now x).1, (Hc r now x).2, none) := by
  unfold Dy Hc
  by_cases h1 : r.Bj = true
  · rw [if_pos h1, if_pos h1]
  by_cases h2 : r.BR = true
  · rw [if_neg h1, if_pos h2, if_neg h1, if_pos h2]
  rw [if_neg h1, if_neg h2, if_neg h1, if_neg h2]
  have j1t : Dy.j1 none r now x true = some (r, 38, none) := by
    unfold Dy.j1
    rw [if_pos rfl]
  by_cases a : x.FQ = r.BC
  · by_cases b : x.D3 = r.AX
    · rw [if_neg (show ¬ ¬ (x.FQ = r.BC ∧ x.D3 = r.AX) from fun q => q ⟨a, b⟩)]
      rw [if_neg (show ¬ (!decide (x.FQ = r.BC)) = true by rw [decide_eq_true a]; decide), decide_eq_true b]
      unfold Dy.j1
      rw [if_neg (by decide)]
      refine Ax (Mc h) (Ax (JZ r _ (by omega)) ?_)
      by_cases c : DK r.Ah (GN x) < 0
      · rw [if_neg (show ¬ 0 ≤ DK r.Ah (GN x) by omega), if_pos (by decide), if_pos (.inl c)]
      · rw [if_pos (show 0 ≤ DK r.Ah (GN x) by omega)]
        by_cases e : (r.Ah.getD (DK r.Ah (GN x)).toNat default).BD = 1
        · rw [if_neg (show ¬ (!decide ((r.Ah.getD (DK r.Ah (GN x)).toNat default).BD = 1)) = true by rw [decide_eq_true e]; decide), if_neg (show ¬ (DK r.Ah (GN x) < 0 ∨ (r.Ah.getD (DK r.Ah (GN x)).toNat default).BD ≠ 1) from fun q => q.elim c (fun z => z e))]
          refine Ax (Kc r _ now hr) ?_
          by_cases f : F2 r (r.Ah.getD (DK r.Ah (GN x)).toNat default).Bt now = 0
          · rw [if_neg (by rw [decide_eq_true f]; decide), if_neg (fun q => q f)]
            exact Ax (Nu r _ (by omega)) rfl
          · rw [if_pos (by rw [decide_eq_false f]; decide), if_pos f]
        · rw [if_pos (show (!decide ((r.Ah.getD (DK r.Ah (GN x)).toNat default).BD = 1)) = true by rw [decide_eq_false e]; rfl), if_pos (show DK r.Ah (GN x) < 0 ∨ (r.Ah.getD (DK r.Ah (GN x)).toNat default).BD ≠ 1 from .inr e)]
    · rw [if_pos (show ¬ (x.FQ = r.BC ∧ x.D3 = r.AX) from fun q => b q.2)]
      rw [if_neg (show ¬ (!decide (x.FQ = r.BC)) = true by rw [decide_eq_true a]; decide), decide_eq_false b]
      exact j1t
  · rw [if_pos (show ¬ (x.FQ = r.BC ∧ x.D3 = r.AX) from fun q => a q.1)]
    rw [if_pos (show (!decide (x.FQ = r.BC)) = true by rw [decide_eq_false a]; rfl)]
    exact j1t
theorem N7 (r : Aa) (now : Int) {d : List UInt8} (hd : d.length = 32) {i : Nat} (hi : i < 4294967296) {br : List (List UInt8)} (hb : ∀ p ∈ br, p.length = 32) (hr : r.Ay.length < 1000000) (hl : r.Ah.length < 100000) :
    Dq none r now d (i : Int) br = some ((H8 r now d i br).1, (H8 r now d i br).2, none) := by
  unfold Dq H8
  by_cases h1 : r.Bj = true
  · rw [if_pos h1, if_pos h1]
  by_cases h2 : r.BR = true
  · rw [if_neg h1, if_pos h2, if_neg h1, if_pos h2]
  rw [if_neg h1, if_neg h2, if_neg h1, if_neg h2]
  by_cases a : br.length = 32
  · rw [if_neg (by rw [decide_eq_true (show (br.length : Int) = 32 by omega)]; decide), if_neg (show ¬ br.length ≠ 32 from fun q => q a)]
    refine Ax (Qu hd hi hb a) (Ax (Kc r _ now hr) ?_)
    by_cases c : F2 r (GX br i d) now = 0
    · rw [if_neg (by simp [c]), if_neg (show ¬ F2 r (GX br i d) now ≠ 0 from fun q => q c)]
      refine Ax (JZ r d (by omega)) ?_
      have hput : BU r ⟨d, 1, GX br i d⟩ = _ := Nu r ⟨d, 1, GX br i d⟩ (by omega)
      by_cases y : 0 ≤ DK r.Ah d
      · rw [if_pos y]
        by_cases z : (r.Ah.getD (DK r.Ah d).toNat default).BD = 2
        · rw [if_pos (decide_eq_true z), if_pos ⟨y, z⟩]
        · rw [if_neg (show ¬ decide ((r.Ah.getD (DK r.Ah d).toNat default).BD = 2) = true by rw [decide_eq_false z]; decide), if_neg (fun q : 0 ≤ DK r.Ah d ∧ (r.Ah.getD (DK r.Ah d).toNat default).BD = 2 => z q.2)]
          refine Ax (K3 r d (by omega)) ?_
          rw [if_neg (by rw [decide_eq_true y]; decide), if_neg (show ¬ (DK r.Ah d < 0 ∧ 4096 ≤ r.Ah.length) by omega)]
          unfold Dq.j1
          rw [if_neg (by decide)]
          exact Ax hput rfl
      · rw [if_neg y, if_neg (by decide), if_neg (fun q : 0 ≤ DK r.Ah d ∧ (r.Ah.getD (DK r.Ah d).toNat default).BD = 2 => y q.1)]
        refine Ax (K3 r d (by omega)) ?_
        rw [if_pos (by rw [decide_eq_false y]; decide)]
        unfold Dq.j1
        by_cases z : 4096 ≤ r.Ah.length
        · rw [if_pos (decide_eq_true (by omega)), if_pos ⟨by omega, z⟩]
        · rw [if_neg (by rw [decide_eq_false (by omega)]; decide), if_neg (fun q => z q.2)]
          exact Ax hput rfl
    · rw [if_pos (by simp [c]), if_pos (show F2 r (GX br i d) now ≠ 0 from c)]
  · rw [if_pos (by rw [decide_eq_false (show ¬ (br.length : Int) = 32 by omega)]; decide), if_pos (show br.length ≠ 32 from a)]
theorem P4 {r : Aa} (R : Ft r) : Bh r = some true := by
  have hrl := R.rl
  have hsl := R.sl
  obtain ⟨c, h1, h2⟩ := B7 (body := fun s : Int => Bh.b1 r s) (fun s => ∃ i : Nat, i ≤ r.Ay.length ∧ s = (i : Int)) (fun c => match c with | .next _ => True | .ret _ => False) (fun s => (r.Ay.length - s).toNat)
    (fun s ⟨i, hi, hs⟩ => by
      subst hs
      have e1 : ((i : Nat) : Int).toNat = i := by omega
      by_cases q : i < r.Ay.length
      · refine .inl ⟨((i + 1 : Nat) : Int), ?_, ⟨i + 1, by omega, rfl⟩, by simp; omega⟩
        show Bh.b1 r (i : Int) = _
        unfold Bh.b1
        rw [if_pos (by simp; omega), if_pos (by omega), e1]
        refine Ax (Hr r _ (by omega)) ?_
        rw [Ra r R.ro i q, if_neg (by simp), Er (by omega)]
        rfl
      · refine .inr (.inl ⟨(i : Int), ?_, trivial⟩)
        show Bh.b1 r (i : Int) = _
        unfold Bh.b1
        rw [if_neg (by simp; omega)]) (((r.Ay.length : Int) - 0 : Int).toNat + 2) 0 ⟨0, by omega, rfl⟩ (by simp)
  obtain ⟨d, m1, m2⟩ := B7 (body := fun s : Int => Bh.b2 r s) (fun s => ∃ i : Nat, i ≤ r.Ah.length ∧ s = (i : Int)) (fun c => match c with | .next _ => True | .ret _ => False) (fun s => (r.Ah.length - s).toNat)
    (fun s ⟨i, hi, hs⟩ => by
      subst hs
      have e1 : ((i : Nat) : Int).toNat = i := by omega
      by_cases q : i < r.Ah.length
      · refine .inl ⟨((i + 1 : Nat) : Int), ?_, ⟨i + 1, by omega, rfl⟩, by simp; omega⟩
        show Bh.b2 r (i : Int) = _
        unfold Bh.b2
        rw [if_pos (by simp; omega), if_pos (by omega), e1]
        refine Ax (IT r _ (by omega)) ?_
        rw [OI r.Ah R.st i q, if_neg (by simp)]
        obtain ⟨k1, k2⟩ := R.ok _ (Kl r.Ah default i q)
        have k3 := (MX r (r.Ah.getD i default).Bt).2 k2
        have hj : Bh.j1 (i : Int) (decide (Gg r (r.Ah.getD i default).Bt < 0)) = some (.cont ((i + 1 : Nat) : Int)) := by
          unfold Bh.j1
          rw [if_neg (by rw [decide_eq_false (by omega)]; decide), Er (by omega)]
          rfl
        by_cases z : (r.Ah.getD i default).BD = 1
        · rw [if_neg (by rw [decide_eq_true z]; decide)]
          exact Ax (Hr r _ (by omega)) hj
        · have z2 : (r.Ah.getD i default).BD = 2 := k1.resolve_left z
          rw [if_pos (by rw [decide_eq_false z]; decide), if_neg (by rw [decide_eq_true z2]; decide)]
          exact Ax (Hr r _ (by omega)) hj
      · refine .inr (.inl ⟨(i : Int), ?_, trivial⟩)
        show Bh.b2 r (i : Int) = _
        unfold Bh.b2
        rw [if_neg (by simp; omega)]) (((r.Ah.length : Int) - 0 : Int).toNat + 2) 0 ⟨0, by omega, rfl⟩ (by simp)
  unfold Bh
  cases c with
  | ret _ => exact h2.elim
  | next _ =>
    refine Bz h1 ?_
    cases d with
    | ret _ => exact m2.elim
    | next _ =>
      refine Bz m1 ?_
      show (if _ then _ else _) = _
      unfold Bh.j2
      rw [if_pos (decide_eq_true (by omega)), decide_eq_true (by omega)]
end

section
set_option linter.unusedVariables false
set_option linter.unusedSimpArgs false

theorem Kn {K V : Type} [DecidableEq K] (k k' : K) (v : V) : ∀ m : List (K × V), Gd k (GW k' v m) = if k = k' then some v else Gd k m
  | [] => by
    simp only [GW, Gd]
  | x :: m => by
    simp only [GW]
    by_cases h : k' = x.1
    · rw [if_pos h]
      by_cases h2 : k = k'
      · simp [Gd, h2]
      · have : k ≠ x.1 := fun q => h2 (q.trans h.symm)
        simp [Gd, h2, this]
    · rw [if_neg h]
      by_cases h2 : k = x.1
      · have : k ≠ k' := fun q => h (q.symm.trans h2)
        simp [Gd, h2, this]
        intro q; exact absurd q.symm h
      · simp only [Gd, if_neg h2]
        exact Kn k k' v m
theorem Sp {a : Nat} (h : a < 6) : 0 ≤ bits .xor .i64 (a : Int) 1 := by
  have : a = 0 ∨ a = 1 ∨ a = 2 ∨ a = 3 ∨ a = 4 ∨ a = 5 := by omega
  rcases this with rfl | rfl | rfl | rfl | rfl | rfl <;> decide
/-- A branch is made, of digests. -/
theorem Qx {l : List (List UInt8)} (hl : l.length ≤ 4096) (h : Eb l) {a : Nat} (ha : a < l.length) (ha6 : a < 6) : ∃ b, Bw none l (a : Int) = some (b, 0, none) ∧ Eb b := by
  obtain ⟨z, z1, z2, z3⟩ := Mr
  obtain ⟨c, h1, h2⟩ := B7 (body := fun s : Int × (List (List UInt8)) × Int × (Option AD) × (List (List UInt8)) => Bw.b1 (z, none) s.1 s.2.1 s.2.2.1 s.2.2.2.1 s.2.2.2.2)
    (fun s => ∃ (a i : Nat), a < 6 ∧ i ≤ 32 ∧ s.1 = (a : Int) ∧ s.2.2.1 = (i : Int) ∧ s.2.2.2.1 = none ∧ s.2.1.length ≤ 4096 ∧ Eb s.2.1 ∧ s.2.2.2.2.length = i ∧ Eb s.2.2.2.2)
    (fun c => match c with | .next s => s.2.2.2.1 = none ∧ Eb s.2.2.2.2 | .ret _ => False) (fun s => (32 - s.2.2.1).toNat)
    (fun s ⟨a, i, ha, hi, e1, e2, e3, e4, e5, e6, e7⟩ => by
      obtain ⟨s1, m, s3, s4, o⟩ := s
      simp only at e1 e2 e3 e4 e5 e6 e7
      subst e1 e2 e3
      have ei : ((i : Nat) : Int).toNat = i := by omega
      by_cases q : i < 32
      · have hz := Et z3 (i := i) (by omega)
        obtain ⟨m', u1, u2, u3⟩ := SI (l := m) (by omega) e5 hz
        have hx := Sp ha
        have hd : IntKind.wrap .i64 ((a : Int).tdiv 2) = ((a / 2 : Nat) : Int) := by
          have : (a : Int).tdiv 2 = ((a / 2 : Nat) : Int) := by
            rw [Int.tdiv_eq_ediv_of_nonneg (by omega)]; omega
          rw [this, Er (by omega)]
        have fin : ∀ d : List UInt8, d.length = 32 → Bw.j2 (z, none) (a : Int) m (i : Int) none o d = some (.cont (((a / 2 : Nat) : Int), m', ((i + 1 : Nat) : Int), none, o ++ [d])) := by
          intro d hd'
          unfold Bw.j2
          rw [if_pos (by simp [CW]; omega), if_pos (by omega), ei]
          refine Ax u1 ?_
          rw [hd, Er (by omega)]
          rfl
        have go : ∀ d : List UInt8, d.length = 32 → Bw.b1 (z, none) (a : Int) m (i : Int) none o = Bw.j2 (z, none) (a : Int) m (i : Int) none o d → ∃ s', Bw.b1 (z, none) (a : Int) m (i : Int) none o = some (.cont s') ∧ (∃ (a i : Nat), a < 6 ∧ i ≤ 32 ∧ s'.1 = (a : Int) ∧ s'.2.2.1 = (i : Int) ∧ s'.2.2.2.1 = none ∧ s'.2.1.length ≤ 4096 ∧ Eb s'.2.1 ∧ s'.2.2.2.2.length = i ∧ Eb s'.2.2.2.2) ∧ (32 - s'.2.2.1).toNat < (32 - (i : Int)).toNat := fun d hd' hb =>
          ⟨_, hb.trans (fin d hd'), ⟨a / 2, i + 1, by omega, by omega, rfl, rfl, rfl, by show m'.length ≤ 4096; omega, u3, by simp [e6], e7.snoc hd'⟩, by show (32 - ((i + 1 : Nat) : Int)).toNat < _; omega⟩
        refine .inl ?_
        by_cases w : bits .xor .i64 (a : Int) 1 < (m.length : Int)
        · refine go (m.getD (bits .xor .i64 (a : Int) 1).toNat default) (Et e5 (by omega)) ?_
          unfold Bw.b1
          rw [if_pos (decide_eq_true (by omega)), if_pos (by omega), if_pos (decide_eq_true w), if_pos ⟨hx, w⟩]
        · refine go (z.getD i default) hz ?_
          unfold Bw.b1
          rw [if_pos (decide_eq_true (by omega)), if_pos (by omega), if_neg (by rw [decide_eq_false w]; decide), ei]
      · refine .inr (.inl ⟨((a : Int), m, (i : Int), none, o), ?_, rfl, e7⟩)
        show Bw.b1 (z, none) (a : Int) m (i : Int) none o = _
        unfold Bw.b1
        rw [if_neg (by rw [decide_eq_false (by omega)]; decide)]) ((32 - 0 : Int).toNat + 2) ((a : Int), l, 0, none, []) ⟨a, 0, ha6, by omega, rfl, rfl, rfl, hl, h, rfl, fun p hp => by cases hp⟩ (by show ((32 : Int) - 0).toNat < ((32 : Int) - 0).toNat + 2; decide)
  unfold Bw
  rw [if_neg (by rw [decide_eq_false (by omega)]; decide), decide_eq_false (show ¬ (l.length : Int) ≤ (a : Int) by omega)]
  unfold Bw.j1
  rw [if_neg (by decide), if_neg (by rw [decide_eq_false (by omega)]; decide)]
  cases c with
  | ret _ => exact h2.elim
  | next s =>
    obtain ⟨s1, s2, s3, s4, o⟩ := s
    obtain ⟨e1, e2⟩ : s4 = none ∧ Eb o := h2
    subst e1
    exact ⟨o, Ax (x := l) (by unfold BO; rw [if_pos (by omega)]) (Ax z1 (Bz h1 rfl)), e2⟩
/- The letters. -/
def LS : List Ar := [⟨1, 0, 2, [97], [98], []⟩, ⟨1, 1, 2, [97], [98], []⟩, ⟨1, 2, 2, [97], [98], []⟩, ⟨1, 3, 2, [97], [98], []⟩, ⟨1, 4, 2, [97], [98], []⟩, ⟨1, 5, 2, [97], [98], []⟩]
theorem Ng : DS 6 = some LS := by rfl
theorem O9 : ∀ i, i < 6 → ML (LS.getD i default) := by
  intro i hi
  have : i = 0 ∨ i = 1 ∨ i = 2 ∨ i = 3 ∨ i = 4 ∨ i = 5 := by omega
  rcases this with rfl | rfl | rfl | rfl | rfl | rfl <;> exact ⟨by decide, by decide, by decide, by decide, by decide, by decide⟩
noncomputable def LV : List (List UInt8) := LS.map GN
theorem RV (i : Nat) (hi : i < 6) : LV.getD i default = GN (LS.getD i default) := by
  have h : i < LS.length := hi
  unfold LV
  simp only [List.getD, List.getElem?_map, List.getElem?_eq_getElem h, Option.map_some, Option.getD_some]
theorem O8 : Eb LV := by
  intro p hp
  obtain ⟨x, hx, rfl⟩ := List.mem_map.1 hp
  obtain ⟨j, hj, rfl⟩ := List.mem_iff_getElem.1 hx
  have := Qi (O9 j hj)
  rwa [show LS.getD j default = LS[j] by simp [List.getD, hj]] at this
theorem Mu : ∃ z, Bu (fun s : Int × (List (List UInt8)) => Ap.b1 LS s.1 s.2) (((LS.length : Int) - 0 : Int).toNat + 2) (0, []) = some (.next (z, LV)) := by
  have h6 : LS.length = 6 := rfl
  obtain ⟨c, h1, h2⟩ := B7 (body := fun s : Int × (List (List UInt8)) => Ap.b1 LS s.1 s.2) (fun s => ∃ i : Nat, i ≤ 6 ∧ s = ((i : Int), LV.take i)) (fun c => match c with | .next s => s.2 = LV | .ret _ => False) (fun s => (6 - s.1).toNat)
    (fun s ⟨i, hi, hs⟩ => by
      subst hs
      have e1 : ((i : Nat) : Int).toNat = i := by omega
      have hlv : LV.length = 6 := rfl
      by_cases q : i < 6
      · refine .inl ⟨(((i + 1 : Nat) : Int), LV.take (i + 1)), ?_, ⟨i + 1, by omega, rfl⟩, by simp; omega⟩
        show Ap.b1 LS (i : Int) (LV.take i) = _
        unfold Ap.b1
        rw [if_pos (by rw [h6]; simp; omega), if_pos (by rw [h6]; omega), e1]
        refine Ax (Mc (O9 i q)) ?_
        rw [if_pos (by simp [CW, hlv]; omega), Er (by omega), OF LV i (by omega), RV i q]
        rfl
      · have : i = 6 := by omega
        subst this
        refine .inr (.inl ⟨((6 : Nat), LV.take 6), ?_, List.take_of_length_le (by omega)⟩)
        show Ap.b1 LS ((6 : Nat) : Int) _ = _
        unfold Ap.b1
        rw [if_neg (by rw [h6]; decide)]) (((LS.length : Int) - 0 : Int).toNat + 2) (0, []) ⟨0, by omega, rfl⟩ (by simp [h6])
  cases c with
  | ret _ => exact h2.elim
  | next s =>
    obtain ⟨z, l⟩ := s
    obtain rfl : l = LV := h2
    exact ⟨z, h1⟩
/- The signers. -/
def Fs (s : Am) : Prop := s.CV.length = 32 ∧ ∀ p ∈ s.Bi, p.length = 32
theorem Su : KE ⟨0, [], [], []⟩ := ⟨fun p hp => (by cases hp), fun p hp => (by cases hp), fun p hp => (by cases hp)⟩
theorem L8 {s : Am} (h : Fs s) (d : List UInt8) : Fs (JV s d).1 ∧ KE (JV s d).2.1 := by
  have h0 := Su
  unfold JV
  split
  · split
    · rename_i hn hl
      exact ⟨h, PW h.1 hl h.2 (by omega) d⟩
    · exact ⟨h, h0⟩
  · exact ⟨h, h0⟩
theorem L0 {s : Am} (h : Fs s) {a b : List UInt8} (ha : a.length = 32) (hb : b.length = 32) : Fs (Lm s 1 a b).1 ∧ MH (Lm s 1 a b).2.1 := by
  obtain ⟨k1, k2⟩ := L8 h (Kz 1 a b)
  unfold Lm
  simp only
  split
  · exact ⟨k1, (show E5 .u32 1 by decide), ha, hb, k2⟩
  · exact ⟨h, (show E5 .u32 0 by decide), (by simp), (by simp), Su⟩
theorem OH {s : Am} (h : Fs s) {a : List UInt8} (ha : a.length = 32) (w : Int) : MI (JR s 1 a w).2.1 := by
  obtain ⟨k1, k2⟩ := L8 h (Ks 1 a w)
  unfold JR
  simp only
  split
  · exact ⟨(show E5 .u32 1 by decide), ha, k2⟩
  · exact ⟨(show E5 .u32 0 by decide), (by simp), Su⟩
theorem NS {r : Aa} (now : Int) {u : AI} (h1 : r.AN.length = 32) (h2 : u.BN.length = 32) : (GL r now u).1.AN.length = 32 := by
  unfold GL
  split
  · exact h1
  split
  · exact h1
  split
  · exact h1
  · exact h2
theorem Qa (r : Aa) (now : Int) (d : List UInt8) (i : Nat) (br : List (List UInt8)) : (H8 r now d i br).1.AN = r.AN := by
  unfold H8
  repeat' split
  all_goals rfl
theorem Q1 (r : Aa) (now : Int) (x : Ar) : (Hc r now x).1.AN = r.AN := by
  unfold Hc
  repeat' split
  all_goals rfl
theorem Qm (r : Aa) (s : A1) : (Ib r s).1.AN = r.AN := by
  unfold Ib
  repeat' split
  all_goals rfl
/- The play. -/
abbrev SF := Int × Int × Int × Am × (Option AD) × Aa × (List (Int × Bool))
structure HH (i : Nat) (r : Aa) : Prop where
  R : Ft r
  wl : r.AP.length ≤ 1
  rl : r.Ay.length ≤ i
  sl : r.Ah.length ≤ i
  wn : 0 ≤ r.A4 ∧ r.A4 < 65536
  co : r.AN.length = 32
  up : r.AQ.length = 32
theorem HH.next {i : Nat} {r q : Aa} (A : HH i r) (R : Ft q) (K : Kept r q) (hc : q.AN.length = 32) : HH (i + 1) q := by
  obtain ⟨k1, k2, k3, k4, k5, k6, k7, k8⟩ := K
  have := A.rl
  have := A.sl
  exact ⟨R, by rw [k4]; exact A.wl, by omega, by omega, by rw [k5]; exact A.wn, hc, by rw [k3]; exact A.up⟩
def LP (dn : List (Int × Bool)) (r : Aa) : Prop := ∀ k : Nat, k < 6 → (Gd (k : Int) dn).getD false = true → Ha r (GN (LS.getD k default))
structure Ig (i : Nat) (s : SF) : Prop where
  now : 0 ≤ s.1 ∧ s.1 ≤ 70000 * (i : Int)
  D1 : 0 ≤ s.2.1 ∧ s.2.1 ≤ 6
  idx : s.2.2.1 = (i : Int)
  sg : Fs s.2.2.2.1
  lg : s.2.2.2.2.1 = none
  rp : HH i s.2.2.2.2.2.1
  dn : LP s.2.2.2.2.2.2 s.2.2.2.2.2.1
def Fu (i : Nat) (o : Option (Cn Bool SF)) : Prop := ∃ s', o = some (.cont s') ∧ Ig (i + 1) s'
theorem Jf {i : Nat} (hi : i < 20) {now D1 e : Int} {sg : Am} {r : Aa} {dn : List (Int × Bool)} (h1 : 0 ≤ now ∧ now ≤ 70000 * ((i + 1 : Nat) : Int)) (h2 : 0 ≤ D1 ∧ D1 ≤ 6) (h3 : Fs sg) (h4 : HH (i + 1) r) (h5 : LP dn r) :
    Fu i (Ap.j2 (i : Int) now D1 e e sg r r none dn) := by
  have := h4.wl
  have := h4.rl
  have := h4.sl
  refine ⟨(now, D1, ((i + 1 : Nat) : Int), sg, none, r, dn), ?_, ⟨h1, h2, rfl, h3, rfl, h4, h5⟩⟩
  unfold Ap.j2
  refine Ax (Q9 r (by omega) (by omega) (by omega)) ?_
  rw [if_neg (by decide), if_neg (by simp)]
  refine Ax (P4 h4.R) ?_
  unfold Ap.j3
  rw [if_neg (by decide), Er (by omega)]
  rfl
theorem Si (n : Int) : ∃ k : Nat, k < 6 ∧ IntKind.wrap .i64 ((IntKind.wrap .u64 n).tmod 6) = (k : Int) := by
  have h := QF (FE .u64 n)
  refine ⟨((IntKind.wrap .u64 n) % 6).toNat, by omega, ?_⟩
  rw [Int.tmod_eq_emod_of_nonneg h.1, Er (by omega)]
  omega
theorem w6 : IntKind.wrap .u64 (LS.length : Int) = 6 := by decide
section acts
variable {acts : List AW} {wt : Am} {now D1 : Int} {i : Nat} {sg : Am} {r : Aa} {dn : List (Int × Bool)}
theorem QH (hi : i < 20) (hw : Fs wt) (A : Ig i (now, D1, (i : Int), sg, none, r, dn)) (b : Bool) : Fu i (Ap.j9 acts (wt, none) LS now D1 (i : Int) sg none r dn b) := by
  obtain ⟨k, hk, hK⟩ := Si (acts.getD i default).FZ
  have e1 : ((i : Nat) : Int).toNat = i := by omega
  obtain ⟨n1, n2⟩ := A.now
  have n1 : 0 ≤ now := n1
  have n2 : now ≤ 70000 * (i : Int) := n2
  have P : HH i r := A.rp
  have D : LP dn r := A.dn
  unfold Ap.j9
  rw [e1, w6, hK]
  cases b with
  | true =>
    rw [if_pos rfl]
    obtain ⟨q1, q2⟩ := Ph P.R (JR wt 1 r.AQ ((k : Int).tmod 2)).2.1
    have hs := OH hw P.up ((k : Int).tmod 2)
    have := P.wl
    have F : Fu i (Ap.j2 (i : Int) now D1 (Ib r (JR wt 1 r.AQ ((k : Int).tmod 2)).2.1).2 (Ib r (JR wt 1 r.AQ ((k : Int).tmod 2)).2.1).2 sg (Ib r (JR wt 1 r.AQ ((k : Int).tmod 2)).2.1).1 (Ib r (JR wt 1 r.AQ ((k : Int).tmod 2)).2.1).1 none dn) :=
      Jf hi ⟨n1, by omega⟩ A.D1 A.sg (P.next q1 q2 (by rw [Qm]; exact P.co)) (fun k hk h => q2.2.2.2.2.2.2.2 _ (D k hk h))
    obtain ⟨s', f1, f2⟩ := F
    exact ⟨s', Ax (OG hw.1 hw.2 (by decide) P.up _) (Ax (Ol r hs) (Ax (M0 r hs (by omega)) f1)), f2⟩
  | false =>
    rw [if_neg (by decide)]
    have hn := QF (FE .u64 (acts.getD i default).FZ)
    have ht : 0 ≤ (IntKind.wrap .u64 (acts.getD i default).FZ).tmod 70000 ∧ (IntKind.wrap .u64 (acts.getD i default).FZ).tmod 70000 < 70000 := by
      rw [Int.tmod_eq_emod_of_nonneg hn.1]; omega
    rw [Ih (x := now + _) (by omega)]
    exact Jf hi ⟨by omega, by omega⟩ A.D1 A.sg (P.next P.R (.refl r) P.co) D
theorem QI (hi : i < 20) (hw : Fs wt) (A : Ig i (now, D1, (i : Int), sg, none, r, dn)) (b : Bool) : Fu i (Ap.j8 acts (wt, none) LS now D1 (i : Int) sg none r dn b) := by
  obtain ⟨k, hk, hK⟩ := Si (acts.getD i default).FZ
  have e1 : ((i : Nat) : Int).toNat = i := by omega
  obtain ⟨n1, n2⟩ := A.now
  have n1 : 0 ≤ now := n1
  have n2 : now ≤ 70000 * (i : Int) := n2
  have P : HH i r := A.rp
  have D : LP dn r := A.dn
  have S : Fs sg := A.sg
  unfold Ap.j8
  cases b with
  | true =>
    rw [if_pos rfl, e1, w6, hK]
    generalize hx : ([B5 (IntKind.wrap .u8 (k : Int))] ++ List.replicate (32 - 1) 0 : List UInt8) = x
    have x32 : x.length = 32 := by rw [← hx]; simp
    obtain ⟨u1, u2⟩ := L0 S P.co x32
    have hsg := LY S.1 S.2 (home := 1) (by decide) P.co x32
    generalize hu : Lm sg 1 r.AN x = U at u1 u2 hsg
    obtain ⟨sg', u, e⟩ := U
    have u1 : Fs sg' := u1
    have u2 : MH u := u2
    have hsg : El none sg 1 r.AN x = some (sg', u, e, none) := hsg
    obtain ⟨q1, q2⟩ := MG P.R now u
    have := P.rl
    have pw := P.wn
    have F : Fu i (Ap.j2 (i : Int) now D1 (GL r now u).2 (GL r now u).2 sg' (GL r now u).1 (GL r now u).1 none dn) :=
      Jf hi ⟨n1, by omega⟩ A.D1 u1 (P.next q1 q2 (NS now P.co u2.2.2.1)) (fun k hk h => q2.2.2.2.2.2.2.2 _ (D k hk h))
    obtain ⟨s', f1, f2⟩ := F
    refine ⟨s', Ax hsg (Ax (Lh r now u2 (by omega) (by omega) (by omega)) (Ax (Kd r now u2 (by omega) (by omega) (by omega)) f1)), f2⟩
  | false =>
    rw [if_neg (by decide)]
    split
    · exact QH hi hw A _
    · exact QH hi hw A _
theorem QJ (hi : i < 20) (hw : Fs wt) (A : Ig i (now, D1, (i : Int), sg, none, r, dn)) (b : Bool) : Fu i (Ap.j5 acts (wt, none) LS now D1 (i : Int) sg none r dn b) := by
  obtain ⟨k, hk, hK⟩ := Si (acts.getD i default).FZ
  have e1 : ((i : Nat) : Int).toNat = i := by omega
  have e2 : ((k : Nat) : Int).toNat = k := by omega
  obtain ⟨n1, n2⟩ := A.now
  have n1 : 0 ≤ now := n1
  have n2 : now ≤ 70000 * (i : Int) := n2
  have P : HH i r := A.rp
  have D : LP dn r := A.dn
  have S : Fs sg := A.sg
  have h6 : LS.length = 6 := rfl
  unfold Ap.j5
  cases b with
  | true =>
    rw [if_pos rfl, e1, w6, hK, e2, if_pos (by rw [h6]; omega)]
    have hx := O9 k hk
    generalize hX : LS.getD k default = X at hx
    obtain ⟨q1, q2, q3⟩ := PU P.R now X
    have := P.rl
    have := P.sl
    have base : LP dn (Hc r now X).1 := fun k hk h => q2.2.2.2.2.2.2.2 _ (D k hk h)
    have F : ∀ dn', LP dn' (Hc r now X).1 → Fu i (Ap.j7 now D1 (i : Int) sg ((Hc r now X).1, (Hc r now X).2, none) ((Hc r now X).1, (Hc r now X).2, none) dn') := fun dn' hd => by
      unfold Ap.j7
      exact Jf hi ⟨n1, by omega⟩ A.D1 S (P.next q1 q2 (by rw [Q1]; exact P.co)) hd
    have G : Fu i (Ap.j6 acts LS now D1 (i : Int) sg dn ((Hc r now X).1, (Hc r now X).2, none) ((Hc r now X).1, (Hc r now X).2, none) false) := by
      unfold Ap.j6
      rw [if_neg (by decide), e1, w6, hK]
      split
      · rename_i hd
        refine F _ fun k' hk' h => ?_
        rw [Kn] at h
        by_cases z : (k' : Int) = (k : Int)
        · have : k' = k := by omega
          subst this
          exact base k' hk' hd
        · rw [if_neg z] at h
          exact base k' hk' h
      · refine F _ fun k' hk' h => ?_
        rw [Kn] at h
        by_cases z : (k' : Int) = (k : Int)
        · have : k' = k := by omega
          subst this
          rw [if_pos rfl] at h
          have h : (Hc r now X).2 = 0 := of_decide_eq_true h
          rw [hX]
          exact (q3 h).2.2
        · rw [if_neg z] at h
          exact base k' hk' h
    have T : Fu i (if (decide ((Hc r now X).2 = (0 : Int))) = true then (if ((Gd (k : Int) dn).getD false) = true then Ap.j6 acts LS now D1 (i : Int) sg dn ((Hc r now X).1, (Hc r now X).2, none) ((Hc r now X).1, (Hc r now X).2, none) true else Ap.j6 acts LS now D1 (i : Int) sg dn ((Hc r now X).1, (Hc r now X).2, none) ((Hc r now X).1, (Hc r now X).2, none) r.BR) else Ap.j6 acts LS now D1 (i : Int) sg dn ((Hc r now X).1, (Hc r now X).2, none) ((Hc r now X).1, (Hc r now X).2, none) false) := by
      by_cases z : (Hc r now X).2 = 0
      · obtain ⟨c1, c2, c3⟩ := q3 z
        have hd : ¬ (Gd (k : Int) dn).getD false = true := fun h => c2 (by rw [← hX]; exact D k hk h)
        rw [if_pos (decide_eq_true z), if_neg hd, c1]
        exact G
      · rw [if_neg (by rw [decide_eq_false z]; decide)]
        exact G
    obtain ⟨s', f1, f2⟩ := T
    refine ⟨s', Ax (N2 r now hx (by omega) (by omega)) ?_, f2⟩
    rw [if_pos (by rw [h6]; omega)]
    exact Ax (ON r now hx (by omega) (by omega)) f1
  | false =>
    rw [if_neg (by decide)]
    split
    · exact QI hi hw A _
    · exact QI hi hw A _
theorem QK (hi : i < 20) (hw : Fs wt) (A : Ig i (now, D1, (i : Int), sg, none, r, dn)) (b : Bool) : Fu i (Ap.j4 acts (wt, none) LS LV now D1 (i : Int) sg none r dn b) := by
  obtain ⟨k, hk, hK⟩ := Si (acts.getD i default).FZ
  have e1 : ((i : Nat) : Int).toNat = i := by omega
  obtain ⟨n1, n2⟩ := A.now
  have n1 : 0 ≤ now := n1
  have n2 : now ≤ 70000 * (i : Int) := n2
  obtain ⟨t1, t2⟩ := A.D1
  have t1 : 0 ≤ D1 := t1
  have t2 : D1 ≤ 6 := t2
  have P : HH i r := A.rp
  have D : LP dn r := A.dn
  have S : Fs sg := A.sg
  have hlv : LV.length = 6 := rfl
  unfold Ap.j4
  cases b with
  | true =>
    rw [if_pos rfl]
    by_cases z : D1 = 0
    · rw [if_pos (decide_eq_true z)]
      refine ⟨(now, D1, ((i + 1 : Nat) : Int), sg, none, r, dn), by rw [Er (by omega)]; rfl, ⟨⟨n1, by show now ≤ 70000 * ((i + 1 : Nat) : Int); omega⟩, A.D1, rfl, S, rfl, P.next P.R (.refl r) P.co, D⟩⟩
    · rw [if_neg (by rw [decide_eq_false z]; decide), if_pos (by rw [hlv]; omega), if_pos z, e1, w6, hK]
      obtain ⟨m, rfl⟩ : ∃ m : Nat, D1 = (m : Int) := ⟨D1.toNat, by omega⟩
      have em : ((m : Nat) : Int).toNat = m := by omega
      have hm : (k : Int).tmod (m : Int) = ((k % m : Nat) : Int) := by
        rw [Int.tmod_eq_emod_of_nonneg (by omega)]; exact (Int.natCast_emod k m).symm
      have hkm : k % m < m := Nat.mod_lt _ (by omega)
      have hdr : (LV.take m).drop (0 : Int).toNat = LV.take m := rfl
      rw [hm, em, hdr]
      have ek : ((k % m : Nat) : Int).toNat = k % m := by omega
      have htl : (LV.take m).length = m := by simp [hlv]; omega
      obtain ⟨br, b1, b2⟩ := Qx (l := LV.take m) (by omega) (fun p hp => O8 p (List.mem_of_mem_take hp)) (a := k % m) (by omega) (by omega)
      have hw32 : IntKind.wrap .u32 ((k % m : Nat) : Int) = ((k % m : Nat) : Int) := Oy (by omega)
      have hleaf : (LV.getD (k % m) default).length = 32 := Et O8 (by omega)
      generalize hd : LV.getD (k % m) default = d at hleaf
      obtain ⟨q1, q2⟩ := OW P.R now d (k % m) br
      have := P.rl
      have := P.sl
      have F : Fu i (Ap.j2 (i : Int) now (m : Int) (H8 r now d (k % m) br).2 (H8 r now d (k % m) br).2 sg (H8 r now d (k % m) br).1 (H8 r now d (k % m) br).1 none dn) :=
        Jf hi ⟨n1, by omega⟩ A.D1 S (P.next q1 q2 (by rw [Qa]; exact P.co)) (fun k hk h => q2.2.2.2.2.2.2.2 _ (D k hk h))
      obtain ⟨s', f1, f2⟩ := F
      refine ⟨s', Ax b1 ?_, f2⟩
      rw [if_pos z, if_pos (by rw [hlv]; omega), hw32, ek, hd]
      refine Ax (M5 r now hleaf (by omega) b2 (by omega) (by omega)) ?_
      rw [if_pos z, if_pos (by rw [hlv]; omega)]
      exact Ax (N7 r now hleaf (by omega) b2 (by omega) (by omega)) f1
  | false =>
    rw [if_neg (by decide)]
    split
    · exact QJ hi hw A _
    · exact QJ hi hw A _
theorem QL (hi : i < 20) (hw : Fs wt) (A : Ig i (now, D1, (i : Int), sg, none, r, dn)) (b : Bool) : Fu i (Ap.j1 acts (wt, none) LS LV now D1 (i : Int) sg none r dn b) := by
  obtain ⟨n1, n2⟩ := A.now
  have n1 : 0 ≤ now := n1
  have n2 : now ≤ 70000 * (i : Int) := n2
  obtain ⟨t1, t2⟩ := A.D1
  have t1 : 0 ≤ D1 := t1
  have t2 : D1 ≤ 6 := t2
  have P : HH i r := A.rp
  have D : LP dn r := A.dn
  have S : Fs sg := A.sg
  have hlv : LV.length = 6 := rfl
  have h6 : (LS.length : Int) = 6 := rfl
  unfold Ap.j1
  cases b with
  | true =>
    rw [if_pos rfl]
    obtain ⟨m, hm6, hm⟩ : ∃ m : Nat, m ≤ 6 ∧ (if (LS.length : Int) < (IntKind.wrap .i64 (D1 + 1)) then (LS.length : Int) else (IntKind.wrap .i64 (D1 + 1))) = (m : Int) := by
      rw [h6, Er (by omega)]
      split
      · exact ⟨6, by omega, rfl⟩
      · exact ⟨(D1 + 1).toNat, by omega, by omega⟩
    have hdr : (LV.take m).drop (0 : Int).toNat = LV.take m := rfl
    have em : ((m : Nat) : Int).toNat = m := by omega
    rw [hm, if_pos (by rw [hlv]; omega), em, hdr]
    obtain ⟨x, o1, x32⟩ := SM (l := LV.take m) (by simp [hlv]; omega) (fun p hp => O8 p (List.mem_of_mem_take hp))
    obtain ⟨u1, u2⟩ := L0 S P.co x32
    have hsg := LY S.1 S.2 (home := 1) (by decide) P.co x32
    generalize hu : Lm sg 1 r.AN x = U at u1 u2 hsg
    obtain ⟨sg', u, e⟩ := U
    have u1 : Fs sg' := u1
    have u2 : MH u := u2
    have hsg : El none sg 1 r.AN x = some (sg', u, e, none) := hsg
    obtain ⟨q1, q2⟩ := MG P.R now u
    have := P.rl
    have pw := P.wn
    have F : Fu i (Ap.j2 (i : Int) now (m : Int) (GL r now u).2 (GL r now u).2 sg' (GL r now u).1 (GL r now u).1 none dn) :=
      Jf hi ⟨n1, by omega⟩ ⟨by omega, by omega⟩ u1 (P.next q1 q2 (NS now P.co u2.2.2.1)) (fun k hk h => q2.2.2.2.2.2.2.2 _ (D k hk h))
    obtain ⟨s', f1, f2⟩ := F
    exact ⟨s', Ax o1 (Ax hsg (Ax (Lh r now u2 (by omega) (by omega) (by omega)) (Ax (Kd r now u2 (by omega) (by omega) (by omega)) f1))), f2⟩
  | false =>
    rw [if_neg (by decide)]
    split
    · exact QK hi hw A _
    · exact QK hi hw A _
end acts
theorem Is (seed : List UInt8) (win : Int) (acts : List AW) (hs : seed.length = 32) (hw : E5 .u16 win) : Ap seed win acts = some true := by
  unfold Ap
  refine Ax Qz ?_
  rw [if_neg (by decide)]
  by_cases h20 : 20 < acts.length
  · rw [if_pos (decide_eq_true (by omega))]
  rw [if_neg (by rw [decide_eq_false (by omega)]; decide)]
  have w32 : ([B5 9] ++ List.replicate (32 - 1) 0 : List UInt8).length = 32 := by simp
  generalize ([B5 9] ++ List.replicate (32 - 1) 0 : List UInt8) = wseed at w32
  obtain ⟨L1, a1, b1⟩ := O6 none hs
  obtain rfl := b1 rfl
  obtain ⟨L2, a2, b2⟩ := O6 none w32
  obtain rfl := b2 rfl
  obtain ⟨z, lv⟩ := Mu
  have l1 := Kp hs
  have l2 := Kp w32
  obtain ⟨L3, a3, b3⟩ := Nv none (s := ⟨seed, 0, leaves seed⟩) l1.1 l1.2
  obtain rfl := b3 rfl
  obtain ⟨L4, a4, b4⟩ := Nv none (s := ⟨wseed, 0, leaves wseed⟩) l2.1 l2.2
  obtain rfl := b4 rfl
  obtain ⟨x, o1, x32⟩ := SM (l := []) (by simp) (fun p hp => (by cases hp))
  have r1 : (Jm (leaves seed)).length = 32 := by
    obtain ⟨g1, g2⟩ := NC l1.1 l1.2 4 (by omega)
    show ((RU (leaves seed) 4).getD 0 default).length = 32
    exact Et g2 (by rw [g1]; decide)
  have hwin : 0 ≤ win ∧ win < 65536 := by
    have h1 := hw.1
    have h2 := hw.2
    simp [IntKind.min, IntKind.max, IntKind.bits, IntKind.signed] at h1 h2
    omega
  refine Ax a1 (Ax a2 (Ax Ng (Bz lv (Ax a3 (Ax a4 (Ax o1 ?_))))))
  refine Ax (x := (⟨1, 2, Jm (leaves seed), [Jm (leaves wseed)], win, x, [], [], false, false⟩ : Aa)) (by unfold E2; rw [Ih (by omega)]; exact Ax (Ps _ (by simp)) rfl) ?_
  have A0 : HH 0 ⟨1, 2, Jm (leaves seed), [Jm (leaves wseed)], win, x, [], [], false, false⟩ := ⟨⟨(by simp), (by simp), fun s h => (by cases h), (by simp), (by simp)⟩, (by simp), (by simp), (by simp), hwin, x32, r1⟩
  generalize (⟨1, 2, Jm (leaves seed), [Jm (leaves wseed)], win, x, [], [], false, false⟩ : Aa) = r0 at A0
  have W : Fs ⟨wseed, 0, leaves wseed⟩ := ⟨w32, l2.2⟩
  obtain ⟨c, h1, h2⟩ := B7 (body := fun s : SF => Ap.b2 acts (⟨wseed, 0, leaves wseed⟩, none) LS LV s.1 s.2.1 s.2.2.1 s.2.2.2.1 s.2.2.2.2.1 s.2.2.2.2.2.1 s.2.2.2.2.2.2) (fun s => ∃ i : Nat, i ≤ acts.length ∧ Ig i s) (fun c => match c with | .next _ => True | .ret _ => False) (fun s => (acts.length - s.2.2.1).toNat)
    (fun s ⟨i, hi, A⟩ => by
      obtain ⟨now, D1, ix, sg, lg, r, dn⟩ := s
      obtain rfl : ix = (i : Int) := A.idx
      obtain rfl : lg = none := A.lg
      by_cases q : i < acts.length
      · have key : Fu i (Ap.b2 acts (⟨wseed, 0, leaves wseed⟩, none) LS LV now D1 (i : Int) sg none r dn) := by
          unfold Ap.b2
          rw [if_pos (decide_eq_true (by omega)), if_pos (by omega), if_pos (by rw [w6]; decide)]
          split
          · exact QL (by omega) W A _
          · exact QL (by omega) W A _
        obtain ⟨s', f1, f2⟩ := key
        exact .inl ⟨s', f1, ⟨i + 1, by omega, f2⟩, by have := f2.idx; show ((acts.length : Int) - s'.2.2.1).toNat < ((acts.length : Int) - (i : Int)).toNat; omega⟩
      · refine .inr (.inl ⟨(now, D1, (i : Int), sg, none, r, dn), ?_, trivial⟩)
        show Ap.b2 acts _ LS LV now D1 (i : Int) sg none r dn = _
        unfold Ap.b2
        rw [if_neg (by rw [decide_eq_false (by omega)]; decide)]) (((acts.length : Int) - 0 : Int).toNat + 2) (0, 0, 0, ⟨seed, 0, leaves seed⟩, none, r0, []) ⟨0, by omega, ⟨⟨Int.le_refl 0, Int.le_refl 0⟩, ⟨Int.le_refl 0, (show (0 : Int) ≤ 6 by decide)⟩, rfl, ⟨hs, l1.2⟩, rfl, A0, fun k hk h => by simp [Gd] at h⟩⟩ (by show ((acts.length : Int) - 0).toNat < ((acts.length : Int) - 0).toNat + 2; omega)
  cases c with
  | ret _ => exact h2.elim
  | next s => exact Bz h1 rfl
end
end Go.Proofs.YteboiefnflipjaaGreatDoor
